/-
  Chapter 25: the order of a graph.
-/
import Derived.Test.YtmjhbococmnppaaS25B
namespace Go.Aw.S25
open Go.RowKit Go.Proofs Go.Aw.Tab
set_option linter.unusedSimpArgs false
set_option linter.unusedVariables false
set_option maxRecDepth 10000
set_option maxHeartbeats 1000000
set_option pp.deepTerms false
set_option pp.deepTerms.threshold 4
set_option pp.maxSteps 1500
attribute [local simp] Lk.cells Nd.cells Dr.cells Pg.val intC boolC
variable {w0 : World} {n : Nat} {H : Heap} {K : Value → Nat → Heap → Prop} {p : Pg} {D E : Nat → Prop}
/-- The first node that is ready. -/
def firstR (fs : List (List Int)) (bs : List Bool) : Option Nat := (List.range fs.length).find? fun i => rdyB bs (at_ fs (i : Int)) i
def stepO (fs : List (List Int)) (s : List Bool × List Int) : List Bool × List Int :=
  match firstR fs s.1 with
  | some i => (s.1.set i true, s.2 ++ [(i : Int)])
  | none => s
def ordP (fs : List (List Int)) : Nat → List Bool × List Int
  | 0 => (List.replicate fs.length false, [])
  | k + 1 => stepO fs (ordP fs k)
theorem ordP_len (fs : List (List Int)) : ∀ k, (ordP fs k).1.length = fs.length ∧ (ordP fs k).2.length ≤ k
  | 0 => by simp [ordP]
  | k + 1 => by
    have ih := ordP_len fs k
    unfold ordP stepO
    split
    · simp only [List.length_set, List.length_append, List.length_cons, List.length_nil]; omega
    · omega
theorem firstR_some {fs : List (List Int)} {bs : List Bool} {j : Nat} (hj : j < fs.length) (h : rdyB bs (at_ fs (j : Int)) j = true) (hq : ∀ q : Nat, q < j → rdyB bs (at_ fs (q : Int)) q = false) : firstR fs bs = some j := by
  unfold firstR
  rw [List.find?_range_eq_some]
  exact ⟨h, by simpa using hj, fun q hq2 => by simpa using hq q hq2⟩
theorem firstR_none {fs : List (List Int)} {bs : List Bool} (hq : ∀ q : Nat, q < fs.length → rdyB bs (at_ fs (q : Int)) q = false) : firstR fs bs = none := by
  unfold firstR
  rw [List.find?_eq_none]
  intro q hq2
  simpa using hq q (by simpa using hq2)
structure GfOk (fs : List (List Int)) : Prop where
  len : ∀ i : Nat, i < fs.length → (at_ fs (i : Int)).length < 1000000
  rng : ∀ i : Nat, i < fs.length → ∀ x ∈ at_ fs (i : Int), 0 ≤ x ∧ x < fs.length
/-- While the order is made. -/
structure OrI (w0 : World) (H0 H : Heap) (n n2 : Nat) (pl v : Value) (E : Nat → Prop) (G : Nat) (fs : List (List Int)) (k : Nat) : Prop where
  bw : H n = .cells [.pointer (some ⟨new G, 0, none⟩)] 57 1
  bv : H (n + 2) = .cells [pl] 64 1
  pl : OwR ⟨Try.prog, w0⟩ H n2 (· = n + 1) 4 1 boolC pl (ordP fs k).1
  ou : OwR ⟨Try.prog, w0⟩ H n2 E 3 1 intC v (ordP fs k).2
  ne : ∀ i, E i → n + 3 ≤ i
  fr : ∀ i, i < n → H i = H0 i
  le : n + 3 ≤ n2
theorem order_ok {G M : Nat} {fv gv : Value} {fs : List (List Int)} (hg : H G = .cells [.map (some (new M)), fv, gv] 62 1) (hGn : G < n) (hf : FsR H w0 D fv fs) (hD : ∀ i, D i → i < n) (hl : fs.length ≤ 64) (hfs : GfOk fs)
    (hk : ∀ n' H' v E, n ≤ n' → (∀ i, i < n → H' i = H i) → (∀ i, E i → n ≤ i) → OwR ⟨Try.prog, w0⟩ H' n' E 3 1 intC v (ordP fs fs.length).2 → K v n' H') : ACall ⟨Try.prog, w0⟩ 39 [.pointer (some ⟨new G, 0, none⟩)] K n H := by
  have hlen : lenK .slice fv = some (fs.length : Int) := by
    obtain ⟨rs, rfl, h1, _⟩ := hf
    rw [List.length_map]; exact h1.lenK
  refine ACall.run Try.func39 rfl Try.ntmps39 Try.results39 (by simp) fun J0 => ?_
  simp (disch := omega) [-hset_if, -Bool.decide_and, hset_ne, hg, hlen]
  refine ⟨by omega, ?_⟩
  have hI : OrI w0 H (hset (n + 2) (.cells [.slice (some ⟨new (n + 1), 0, none⟩) fs.length fs.length] 64 1) (hset (n + 1) (.cells (reps fs.length [.bool false]) 4 1) (hset n (.cells [.pointer (some ⟨new G, 0, none⟩)] 57 1) H))) n (n + 3) (.slice (some ⟨new (n + 1), 0, none⟩) fs.length fs.length) (.slice none 0 0) (fun _ => False) G fs 0 :=
    ⟨by simp (disch := omega) [-hset_if, -Bool.decide_and, hset_ne], by simp (disch := omega) [-hset_if, -Bool.decide_and, hset_ne], OwR.made (T := 4) (sz := 1) (j := n + 1) (z := [.bool false]) (x := false) rfl (by omega) rfl (by omega) (by rw [hset_ne (by omega), hset_same]), OwR.nil (by omega), fun _ h => h.elim, (fun i hi => by simp (disch := omega) only [hset_ne]), by omega⟩
  generalize hset (n + 2) (.cells [.slice (some ⟨new (n + 1), 0, none⟩) fs.length fs.length] 64 1) (hset (n + 1) (.cells (reps fs.length [.bool false]) 4 1) (hset n (.cells [.pointer (some ⟨new G, 0, none⟩)] 57 1) H)) = H1 at *
  generalize Value.slice (some ⟨new (n + 1), 0, none⟩) fs.length fs.length = pl at *
  have hent : entB Try.prog 48 = true := by kernel_rfl
  refine AW.while (σ := EV) (fun s => fs.length - s.j) (fun s => [(1, .pointer (some ⟨new n, 0, none⟩)), (4, .pointer (some ⟨new (n + 2), 0, none⟩)), (5, .func (.func 48) #[] #[.pointer (some ⟨new (n + 2), 0, none⟩), .pointer (some ⟨new n, 0, none⟩)]), (18, .int .i64 (fs.length : Int)), (3, s.v), (19, .int .i64 (s.j : Int))])
    (fun s n2 H2 => s.j ≤ fs.length ∧ OrI w0 H H2 n n2 pl s.v s.E G fs s.j) ⟨0, .slice none 0 0, fun _ => False⟩ ?_ ?_ ?_
  · simp (disch := omega) [-hset_if, -Bool.decide_and, hset_ne]
  · exact ⟨by simp, hI⟩
  clear hI
  rintro ⟨k, v, E2⟩ n2 H2 ⟨g1, g2⟩
  dsimp only at g1 g2 ⊢
  have hle := g2.le
  have hw2 := g2.bw
  have hv2 := g2.bv
  have hg2 : H2 G = .cells [.map (some (new M)), fv, gv] 62 1 := by rw [g2.fr G hGn]; exact hg
  have hf2 : FsR H2 w0 D fv fs := hf.frame (fun i hi => g2.fr i (hD i hi))
  obtain ⟨hl1, hl2⟩ := ordP_len fs k
  simp (disch := omega) [-hset_if, -Bool.decide_and, hset_ne]
  refine cif_dec (fun c1 => ?_) (fun c1 => ?_)
  · have hstep : ordP fs (k + 1) = stepO fs (ordP fs k) := rfl
    simp (disch := omega) [-hset_if, -Bool.decide_and, hset_ne, hw2, hg2, hlen]
    refine AW.while (σ := Nat) (fun j => fs.length - j) (fun j => [(1, .pointer (some ⟨new n, 0, none⟩)), (4, .pointer (some ⟨new (n + 2), 0, none⟩)), (5, .func (.func 48) #[] #[.pointer (some ⟨new (n + 2), 0, none⟩), .pointer (some ⟨new n, 0, none⟩)]), (18, .int .i64 (fs.length : Int)), (3, v), (19, .int .i64 (k : Int)), (25, .int .i64 (fs.length : Int)), (26, .int .i64 (j : Int))])
      (fun j n3 H3 => n2 = n3 ∧ H2 = H3 ∧ j ≤ fs.length ∧ ∀ q : Nat, q < j → rdyB (ordP fs k).1 (at_ fs (q : Int)) q = false) 0 ?_ ?_ ?_
    · simp (disch := omega) [-hset_if, -Bool.decide_and, hset_ne]
    · exact ⟨rfl, rfl, by omega, by omega⟩
    rintro j _ _ ⟨rfl, rfl, l1, l2⟩
    simp (disch := omega) [-hset_if, -Bool.decide_and, hset_ne]
    refine cif_dec (fun c2 => ?_) (fun c2 => ?_)
    · simp (disch := omega) [-hset_if, -Bool.decide_and, hset_ne, hent]
      refine rdy_ok (bs := (ordP fs k).1) (fs := fs) (i := j) (D := (· = n + 1)) (E := D) hv2 hw2 hg2 (by omega) (by omega) (by omega) g2.pl.sl (fun i hi => by omega) hf2 (fun i hi => by have := hD i hi; omega) (by omega) c2 (hfs.len j c2) (fun x hx => by have := hfs.rng j c2 x hx; omega) ?_
      simp (disch := omega) [-hset_if, -Bool.decide_and, hset_ne]
      refine cif_var (fun c3 => ?_) (fun c3 => ?_)
      · have hfi := firstR_some c2 c3 l2
        have hst : stepO fs (ordP fs k) = ((ordP fs k).1.set j true, (ordP fs k).2 ++ [(j : Int)]) := by unfold stepO; rw [hfi]
        rw [hst] at hstep
        simp (disch := omega) [-hset_if, -Bool.decide_and, hset_ne, hv2, g2.pl.sl.ix elemS64, hl1]
        refine g2.pl.store0 shp4 (by omega) (by rw [hl1]; omega) true (by simp) (by simp) (by simp) ?_
        intro H4 f1 f2
        rw [Int.toNat_natCast] at f2
        have ou4 := g2.ou.frame (m := n2) (H' := H4) (Nat.le_refl _) (fun i hi => f1 i (by have := g2.ne i hi; omega))
        simp (disch := omega) [-hset_if, -Bool.decide_and, hset_ne]
        refine ou4.push elemS35 zero3 (by simp) (j : Int) rfl rfl rfl (by first | omega | (dsimp only; omega)) (by first | omega | (dsimp only; omega)) ?_
        intro v4 n4 H5 E4 q1 q2 q3 q4 q5
        have hlow : ∀ i, i < n + 3 → i ≠ n + 1 → H5 i = H2 i := fun i hi hne => by rw [q3 i (by omega) (fun e => by have := g2.ne i e; omega), f1 i hne]
        simp (disch := omega) [-hset_if, -Bool.decide_and, hset_ne]
        refine Next.mk ⟨k + 1, v4, E4⟩ (by first | omega | (dsimp only; omega)) (by simp (disch := omega) [-hset_if, -Bool.decide_and, hset_ne]) ⟨(by first | omega | (dsimp only; omega)), ⟨by rw [hlow n (by omega) (by omega)]; exact g2.bw, by rw [hlow _ (by omega) (by omega)]; exact g2.bv, ?_, by dsimp only; rw [hstep]; exact q5, fun i hi => by rcases q4 i hi with h | h; exact g2.ne i h; omega, fun i hi => by rw [hlow i (by omega) (by omega), g2.fr i hi], by omega⟩⟩
        dsimp only
        rw [hstep]
        exact f2.frame (by omega) (fun i hi => q3 i (by omega) (fun e => by have := g2.ne i e; omega))
      · simp (disch := omega) [-hset_if, -Bool.decide_and, hset_ne]
        exact Next.mk (j + 1) (by first | omega | (dsimp only; omega)) (by simp (disch := omega) [-hset_if, -Bool.decide_and, hset_ne]) ⟨rfl, rfl, by omega, fun q hq => (by by_cases e : q = j; subst e; exact c3; exact l2 q (by omega))⟩
    · have hfi : firstR fs (ordP fs k).1 = none := firstR_none (fun q hq => l2 q (by omega))
      have hst : stepO fs (ordP fs k) = ordP fs k := by unfold stepO; rw [hfi]
      rw [hst] at hstep
      simp (disch := omega) [-hset_if, -Bool.decide_and, hset_ne]
      exact Next.mk ⟨k + 1, v, E2⟩ (by first | omega | (dsimp only; omega)) (by simp (disch := omega) [-hset_if, -Bool.decide_and, hset_ne]) ⟨(by first | omega | (dsimp only; omega)), ⟨g2.bw, g2.bv, by dsimp only; rw [hstep]; exact g2.pl, by dsimp only; rw [hstep]; exact g2.ou, g2.ne, g2.fr, g2.le⟩⟩
  · have hk0 : k = fs.length := by omega
    subst hk0
    simp (disch := omega) [-hset_if, -Bool.decide_and, hset_ne]
    refine Fin_id ?_
    exact hk _ _ _ _ (by omega) g2.fr (fun i hi => by have := g2.ne i hi; omega) g2.ou
end Go.Aw.S25
/-
  Chapter 25: Of.
-/
namespace Go.Aw.S25
open Go.RowKit Go.Proofs Go.Aw.Tab
set_option linter.unusedSimpArgs false
set_option linter.unusedVariables false
set_option maxRecDepth 10000
set_option maxHeartbeats 1000000
set_option pp.deepTerms false
set_option pp.deepTerms.threshold 4
set_option pp.maxSteps 1500
attribute [local simp] Lk.cells Nd.cells Dr.cells Pg.val intC boolC
variable {w0 : World} {n : Nat} {H : Heap} {K : Value → Nat → Heap → Prop} {p : Pg} {D E : Nat → Prop}
theorem feeds_len (l : List Nd) (b : Bool) : (feedsP l b).length = l.length := by unfold feedsP; simp
theorem feeds_at {l : List Nd} {b : Bool} {k : Nat} (h : k < l.length) : at_ (feedsP l b) (k : Int) = feedOf l b k := by
  unfold feedsP
  rw [at_nat (by simpa using h)]
  simp
theorem feeds_rng {l : List Nd} {b : Bool} {k : Nat} {x : Int} (h : x ∈ feedOf l b k) : 0 ≤ x ∧ x < l.length := by
  unfold feedOf feedTo at h
  simp only [List.mem_map, List.mem_filter, List.mem_range] at h
  obtain ⟨i, ⟨h1, _⟩, rfl⟩ := h
  omega
theorem feeds_ok (l : List Nd) (b : Bool) (hl : l.length ≤ 64) : GfOk (feedsP l b) := by
  refine ⟨fun i hi => ?_, fun i hi x hx => ?_⟩
  · rw [feeds_len] at hi
    rw [feeds_at hi]
    have := feedTo_len l b i l.length
    unfold feedOf; omega
  · rw [feeds_len] at hi ⊢
    rw [feeds_at hi] at hx
    exact feeds_rng hx
/-- The least order, or as much of it as there is. -/
def ofP (l : List Nd) : List Int := (ordP (feedsP l false) l.length).2
theorem ofP_len (l : List Nd) : (ofP l).length ≤ l.length := (ordP_len _ _).2
theorem check_len {p : Pg} (h : checkP p = 0) : p.nds.length ≤ 64 := by
  unfold checkP at h
  split at h
  · omega
  · omega
theorem Of_ok (hp : PrR H w0 D p) (hD : ∀ i, D i → i < n) (hib : ∀ d ∈ p.nds, d.lks.length ≤ 1000000)
    (hk : checkP p ≠ 0 → ∀ n' H', n ≤ n' → (∀ i, i < n → H' i = H i) → K (.tuple #[.slice none 0 0, .int .i64 (checkP p)]) n' H')
    (hk2 : checkP p = 0 → (ofP p.nds).length < p.nds.length → ∀ n' H', n ≤ n' → (∀ i, i < n → H' i = H i) → K (.tuple #[.slice none 0 0, .int .i64 12]) n' H')
    (hk3 : checkP p = 0 → (ofP p.nds).length = p.nds.length → ∀ n' H' v E, n ≤ n' → (∀ i, i < n → H' i = H i) → (∀ i, E i → n ≤ i) → OwR ⟨Try.prog, w0⟩ H' n' E 3 1 intC v (ofP p.nds) → K (.tuple #[v, .int .i64 0]) n' H') : ACall ⟨Try.prog, w0⟩ 20 [p.val] K n H := by
  refine ACall.run Try.func20 rfl Try.ntmps20 Try.results20 (by simp) fun J0 => ?_
  simp (disch := omega) [-hset_if, -Bool.decide_and, hset_ne]
  try rw [show (Value.agg #[.string p.nm, .int .i64 p.per, p.nv, p.dv]).cells.toList = [.string p.nm, .int .i64 p.per, p.nv, p.dv] from rfl]
  have hbx : hset n (.cells [.string p.nm, .int .i64 p.per, p.nv, p.dv] 25 1) H n = .cells [.string p.nm, .int .i64 p.per, p.nv, p.dv] 25 1 := hset_same _ _ _
  have hfr : ∀ i, i < n → hset n (.cells [.string p.nm, .int .i64 p.per, p.nv, p.dv] 25 1) H i = H i := fun i hi => hset_ne (by omega) _ _
  generalize hset n (.cells [.string p.nm, .int .i64 p.per, p.nv, p.dv] 25 1) H = H1 at *
  have hp1 : PrR H1 w0 D p := hp.frame (fun i hi => hfr i (hD i hi))
  have hnb := hp.nb
  simp (disch := omega) [-hset_if, -Bool.decide_and, hset_ne, hbx]
  refine build_ok hp1 (fun i hi => by have := hD i hi; omega) hib ?_ ?_
  · intro n' H' a1 a2 a3
    have a3b : (checkP p != 0) = true := by simpa using a3
    simp (disch := omega) [-hset_if, -Bool.decide_and, hset_ne, a3b]
    refine Fin_id ?_
    exact hk a3 n' H' (by omega) (fun i hi => by rw [a2 i (by omega), hfr i hi])
  · intro n' H' G M fv gv a1 a2 a3 a4
    have hl := check_len a3
    have hfs := a4.fs
    rw [links_feeds a3] at hfs
    have hGl := a4.lt
    simp (disch := omega) [-hset_if, -Bool.decide_and, hset_ne]
    refine order_ok a4.gr (by omega) hfs (fun i hi => hi.2) (by rw [feeds_len]; exact hl) (feeds_ok _ _ hl) ?_
    intro n2 H2 v E2 b1 b2 b3 b4
    rw [feeds_len] at b4
    have b4 : OwR ⟨Try.prog, w0⟩ H2 n2 E2 3 1 intC v (ofP p.nds) := b4
    have hol := ofP_len p.nds
    have hfr2 : ∀ i, i < n → H2 i = H i := fun i hi => by rw [b2 i (by omega), a2 i (by omega), hfr i hi]
    have hbx2 : H2 n = .cells [.string p.nm, .int .i64 p.per, p.nv, p.dv] 25 1 := by rw [b2 n (by omega), a2 n (by omega)]; exact hbx
    simp (disch := omega) [-hset_if, -Bool.decide_and, hset_ne, b4.sl.lenK, hbx2, hp1.ns.lenK]
    refine cif_dec (fun c1 => ?_) (fun c1 => ?_)
    · simp (disch := omega) [-hset_if, -Bool.decide_and, hset_ne]
      refine Fin_id ?_
      exact hk2 a3 (by omega) n2 H2 (by omega) hfr2
    · simp (disch := omega) [-hset_if, -Bool.decide_and, hset_ne]
      refine Fin_id ?_
      exact hk3 a3 (by omega) n2 H2 v E2 (by omega) hfr2 (fun i hi => by have := b3 i hi; omega) b4
/-- What is placed is what is in the list. -/
theorem ordP_inv (fs : List (List Int)) : ∀ k i : Nat, i < fs.length → at_ (ordP fs k).1 (i : Int) = decide ((i : Int) ∈ (ordP fs k).2)
  | 0, i, hi => by
    unfold ordP
    rw [at_nat (by simpa using hi)]
    simp
  | k + 1, i, hi => by
    have ih := ordP_inv fs k i hi
    have hl := (ordP_len fs k).1
    unfold ordP stepO
    split
    · rename_i j hj
      dsimp only
      rw [at_nat (by rw [List.length_set, hl]; exact hi), List.getElem_set]
      rw [at_nat (by rw [hl]; exact hi)] at ih
      by_cases e : j = i
      · subst e; simp
      · rw [if_neg e, ih]
        simp only [List.mem_append, List.mem_cons, List.not_mem_nil, or_false]
        have : ¬ ((i : Int) = (j : Int)) := by omega
        simp [this]
    · exact ih
theorem rdyB_eq {fs : List (List Int)} (hfs : GfOk fs) {k i : Nat} (hi : i < fs.length) : rdyB (ordP fs k).1 (at_ fs (i : Int)) i = (!(decide ((i : Int) ∈ (ordP fs k).2)) && readyB (at_ fs (i : Int)) (ordP fs k).2) := by
  unfold rdyB readyB
  rw [ordP_inv fs k i hi]
  congr 1
  rw [Bool.eq_iff_iff]
  simp only [Bool.not_eq_true', List.any_eq_false, Bool.not_eq_true, List.all_eq_true]
  constructor
  · intro h x hx
    have := h x hx
    obtain ⟨q, rfl⟩ := at_drop0 (bs := []) (hfs.rng i hi x hx).1
    rw [ordP_inv fs k q (by have := (hfs.rng i hi _ hx).2; omega)] at this
    simpa using this
  · intro h x hx
    have := h x hx
    obtain ⟨q, rfl⟩ := at_drop0 (bs := []) (hfs.rng i hi x hx).1
    rw [ordP_inv fs k q (by have := (hfs.rng i hi _ hx).2; omega)]
    simpa using this
end Go.Aw.S25
/-
  Chapter 25: the reference's Of.
-/
namespace Go.Aw.S25
open Go.RowKit Go.Proofs Go.Aw.Tab
set_option linter.unusedSimpArgs false
set_option linter.unusedVariables false
set_option maxRecDepth 10000
set_option maxHeartbeats 1000000
set_option pp.deepTerms false
set_option pp.deepTerms.threshold 4
set_option pp.maxSteps 1500
attribute [local simp] Lk.cells Nd.cells Dr.cells Pg.val intC boolC
variable {w0 : World} {n : Nat} {H : Heap} {K : Value → Nat → Heap → Prop} {p : Pg} {D E : Nat → Prop}
structure RoI (w0 : World) (H0 H : Heap) (n m n2 : Nat) (D : Nat → Prop) (p : Pg) (fv v : Value) (E : Nat → Prop) (fs : List (List Int)) (k : Nat) : Prop where
  bx : H n = .cells [.string p.nm, .int .i64 p.per, p.nv, p.dv] 25 1
  fe : FsR H w0 (fun i => n ≤ i ∧ i < m) fv fs
  ou : OwR ⟨Try.prog, w0⟩ H n2 E 3 1 intC v (ordP fs k).2
  ne : ∀ i, E i → m ≤ i
  fr : ∀ i, i < n → H i = H0 i
  le : n + 1 ≤ m ∧ m ≤ n2
theorem ROf_ok (hp : PrR H w0 D p) (hD : ∀ i, D i → i < n) (hl : p.nds.length ≤ 64)
    (hk : ∀ n' H' v E, n ≤ n' → (∀ i, i < n → H' i = H i) → (∀ i, E i → n ≤ i) → OwR ⟨Try.prog, w0⟩ H' n' E 3 1 intC v (ofP p.nds) → K v n' H') : ACall ⟨Try.prog, w0⟩ 22 [p.val] K n H := by
  refine ACall.run Try.func22 rfl Try.ntmps22 Try.results22 (by simp) fun J0 => ?_
  simp (disch := omega) [-hset_if, -Bool.decide_and, hset_ne]
  try rw [show (Value.agg #[.string p.nm, .int .i64 p.per, p.nv, p.dv]).cells.toList = [.string p.nm, .int .i64 p.per, p.nv, p.dv] from rfl]
  have hbx : hset n (.cells [.string p.nm, .int .i64 p.per, p.nv, p.dv] 25 1) H n = .cells [.string p.nm, .int .i64 p.per, p.nv, p.dv] 25 1 := hset_same _ _ _
  have hfr : ∀ i, i < n → hset n (.cells [.string p.nm, .int .i64 p.per, p.nv, p.dv] 25 1) H i = H i := fun i hi => hset_ne (by omega) _ _
  generalize hset n (.cells [.string p.nm, .int .i64 p.per, p.nv, p.dv] 25 1) H = H1 at *
  have hp1 : PrR H1 w0 D p := hp.frame (fun i hi => hfr i (hD i hi))
  have hnb := hp.nb
  simp (disch := omega) [-hset_if, -Bool.decide_and, hset_ne, hbx]
  refine RFeeds_ok hp1 (fun i hi => by have := hD i hi; omega) (by omega) ?_
  intro m H2 fv a1 a2 a3
  have hfo := feeds_ok p.nds false hl
  have hfl := feeds_len p.nds false
  unfold ofP at hk
  rw [← hfl] at hk
  generalize feedsP p.nds false = fs at *
  have hI : RoI w0 H H2 n m m D p fv (.slice none 0 0) (fun _ => False) fs 0 := ⟨by rw [a2 n (by omega)]; exact hbx, a3.mono (fun i hi => by omega), OwR.nil (by omega), fun _ h => h.elim, fun i hi => by rw [a2 i (by omega), hfr i hi], by omega⟩
  clear a3
  simp (disch := omega) [-hset_if, -Bool.decide_and, hset_ne]
  refine AW.while (σ := EV) (fun s => fs.length - s.j) (fun s => [(1, .pointer (some ⟨new n, 0, none⟩)), (3, fv), (4, s.v), (5, .int .i64 (s.j : Int))])
    (fun s n3 H3 => s.j ≤ fs.length ∧ RoI w0 H H3 n m n3 D p fv s.v s.E fs s.j) ⟨0, .slice none 0 0, fun _ => False⟩ ?_ ?_ ?_
  · simp (disch := omega) [-hset_if, -Bool.decide_and, hset_ne]
  · exact ⟨by simp, hI⟩
  clear hI
  rintro ⟨k, v, E2⟩ n3 H3 ⟨g1, g2⟩
  dsimp only at g1 g2 ⊢
  have hle := g2.le
  have hb3 := g2.bx
  have hp3 : PrR H3 w0 D p := hp.frame (fun i hi => g2.fr i (hD i hi))
  obtain ⟨hl1, hl2⟩ := ordP_len fs k
  simp (disch := omega) [-hset_if, -Bool.decide_and, hset_ne, hb3, hp3.ns.lenK, ← hfl]
  refine cif_dec (fun c1 => ?_) (fun c1 => ?_)
  · have hstep : ordP fs (k + 1) = stepO fs (ordP fs k) := rfl
    simp (disch := omega) [-hset_if, -Bool.decide_and, hset_ne]
    refine AW.while (σ := Nat) (fun j => fs.length - j) (fun j => [(1, .pointer (some ⟨new n, 0, none⟩)), (3, fv), (4, v), (5, .int .i64 (k : Int)), (6, .int .i64 (j : Int))])
      (fun j n4 H4 => n3 = n4 ∧ H3 = H4 ∧ j ≤ fs.length ∧ ∀ q : Nat, q < j → rdyB (ordP fs k).1 (at_ fs (q : Int)) q = false) 0 ?_ ?_ ?_
    · simp (disch := omega) [-hset_if, -Bool.decide_and, hset_ne]
    · exact ⟨rfl, rfl, by omega, by omega⟩
    rintro j _ _ ⟨rfl, rfl, l1, l2⟩
    simp (disch := omega) [-hset_if, -Bool.decide_and, hset_ne, hb3, hp3.ns.lenK, ← hfl]
    refine cif_dec (fun c2 => ?_) (fun c2 => ?_)
    · have hrd := rdyB_eq hfo (k := k) (i := j) c2
      simp (disch := omega) [-hset_if, -Bool.decide_and, hset_ne]
      refine has_ok (l := (ordP fs k).2) (x := (j : Int)) g2.ou.sl (by omega) ?_
      by_cases c4 : (j : Int) ∈ (ordP fs k).2
      · rw [decide_eq_true c4] at hrd
        simp (disch := omega) [-hset_if, -Bool.decide_and, hset_ne, c4]
        exact Next.mk (j + 1) (by first | omega | (dsimp only; omega)) (by simp (disch := omega) [-hset_if, -Bool.decide_and, hset_ne]) ⟨rfl, rfl, by omega, fun q hq => (by by_cases e : q = j; subst e; rw [hrd]; rfl; exact l2 q (by omega))⟩
      rw [decide_eq_false c4, Bool.not_false, Bool.true_and] at hrd
      simp (disch := omega) [-hset_if, -Bool.decide_and, hset_ne, c4]
      refine ready_ok (fs := fs) (done := (ordP fs k).2) (k := j) g2.fe g2.ou.sl c2 (by have := hfo.len j c2; omega) (by omega) ?_
      rw [← hrd]
      simp (disch := omega) [-hset_if, -Bool.decide_and, hset_ne]
      refine cif_var (fun c3 => ?_) (fun c3 => ?_)
      · have hfi := firstR_some c2 c3 l2
        have hst : stepO fs (ordP fs k) = ((ordP fs k).1.set j true, (ordP fs k).2 ++ [(j : Int)]) := by unfold stepO; rw [hfi]
        rw [hst] at hstep
        simp (disch := omega) [-hset_if, -Bool.decide_and, hset_ne]
        refine g2.ou.push elemS35 zero3 (by simp) (j : Int) rfl rfl rfl (by first | omega | (dsimp only; omega)) (by first | omega | (dsimp only; omega)) ?_
        intro v4 n4 H5 E4 q1 q2 q3 q4 q5
        have hlow : ∀ i, i < m → H5 i = H3 i := fun i hi => q3 i (by omega) (fun e => by have := g2.ne i e; omega)
        simp (disch := omega) [-hset_if, -Bool.decide_and, hset_ne]
        exact Next.mk ⟨k + 1, v4, E4⟩ (by first | omega | (dsimp only; omega)) (by simp (disch := omega) [-hset_if, -Bool.decide_and, hset_ne]) ⟨(by first | omega | (dsimp only; omega)), ⟨by rw [hlow n (by omega)]; exact g2.bx, g2.fe.frame (fun i hi => hlow i hi.2), by dsimp only; rw [hstep]; exact q5, fun i hi => by rcases q4 i hi with h | h; exact g2.ne i h; omega, fun i hi => by rw [hlow i (by omega), g2.fr i hi], by omega⟩⟩
      · simp (disch := omega) [-hset_if, -Bool.decide_and, hset_ne]
        exact Next.mk (j + 1) (by first | omega | (dsimp only; omega)) (by simp (disch := omega) [-hset_if, -Bool.decide_and, hset_ne]) ⟨rfl, rfl, by omega, fun q hq => (by by_cases e : q = j; subst e; exact c3; exact l2 q (by omega))⟩
    · have hfi : firstR fs (ordP fs k).1 = none := firstR_none (fun q hq => l2 q (by omega))
      have hst : stepO fs (ordP fs k) = ordP fs k := by unfold stepO; rw [hfi]
      rw [hst] at hstep
      simp (disch := omega) [-hset_if, -Bool.decide_and, hset_ne]
      exact Next.mk ⟨k + 1, v, E2⟩ (by first | omega | (dsimp only; omega)) (by simp (disch := omega) [-hset_if, -Bool.decide_and, hset_ne]) ⟨(by first | omega | (dsimp only; omega)), ⟨g2.bx, g2.fe, by dsimp only; rw [hstep]; exact g2.ou, g2.ne, g2.fr, g2.le⟩⟩
  · have hk0 : k = fs.length := by omega
    subst hk0
    simp (disch := omega) [-hset_if, -Bool.decide_and, hset_ne]
    refine Fin_id ?_
    exact hk _ _ _ _ (by omega) g2.fr (fun i hi => by have := g2.ne i hi; omega) g2.ou
end Go.Aw.S25
/-
  Chapter 25: levels.
-/
namespace Go.Aw.S25
open Go.RowKit Go.Proofs Go.Aw.Tab
set_option linter.unusedSimpArgs false
set_option linter.unusedVariables false
set_option maxRecDepth 10000
set_option maxHeartbeats 1000000
set_option pp.deepTerms false
set_option pp.deepTerms.threshold 4
set_option pp.maxSteps 1500
attribute [local simp] Lk.cells Nd.cells Dr.cells Pg.val intC boolC
variable {w0 : World} {n : Nat} {H : Heap} {K : Value → Nat → Heap → Prop} {p : Pg} {D E : Nat → Prop}
def lev1 (i f : Int) (o : List Int) : List Int := o.set i.toNat (max (at_ o i) (at_ o f + 1))
/-- The levels behind j feeds of node i. -/
def levN (fs : List (List Int)) (i : Int) (o : List Int) : Nat → List Int
  | 0 => o
  | j + 1 => lev1 i (at_ (at_ fs i) (j : Int)) (levN fs i o j)
/-- The levels behind k nodes of an order. -/
def levM (fs : List (List Int)) (ord : List Int) : Nat → List Int
  | 0 => List.replicate fs.length 0
  | k + 1 => levN fs (at_ ord (k : Int)) (levM fs ord k) (at_ fs (at_ ord (k : Int))).length
theorem levN_len (fs : List (List Int)) (i : Int) (o : List Int) : ∀ j, (levN fs i o j).length = o.length
  | 0 => rfl
  | j + 1 => by unfold levN lev1; rw [List.length_set]; exact levN_len fs i o j
theorem levM_len (fs : List (List Int)) (ord : List Int) : ∀ k, (levM fs ord k).length = fs.length
  | 0 => by unfold levM; simp
  | k + 1 => by unfold levM; rw [levN_len]; exact levM_len fs ord k
structure Bnd (o : List Int) (B : Int) : Prop where
  all : ∀ x ∈ o, 0 ≤ x ∧ x ≤ B
theorem Bnd.at {o : List Int} {B : Int} (h : Bnd o B) {i : Int} (h0 : 0 ≤ i) (h1 : i < o.length) : 0 ≤ at_ o i ∧ at_ o i ≤ B := by
  obtain ⟨q, rfl⟩ : ∃ q : Nat, i = (q : Int) := ⟨i.toNat, by omega⟩
  exact h.all _ (at_mem (by omega))
theorem Bnd.lev1 {o : List Int} {B : Int} (h : Bnd o B) {i f : Int} (h0 : 0 ≤ i ∧ i < o.length) (h1 : 0 ≤ f ∧ f < o.length) : Bnd (lev1 i f o) (B + 1) := by
  have a := h.at h0.1 h0.2
  have b := h.at h1.1 h1.2
  refine ⟨fun x hx => ?_⟩
  rcases List.mem_or_eq_of_mem_set hx with h2 | rfl
  · have := h.all x h2; omega
  · omega
theorem Bnd.levN {fs : List (List Int)} {i : Int} {o : List Int} {B : Int} (h : Bnd o B) (h0 : 0 ≤ i ∧ i < o.length) (hr : ∀ x ∈ at_ fs i, 0 ≤ x ∧ x < o.length) : ∀ j : Nat, j ≤ (at_ fs i).length → Bnd (levN fs i o j) (B + j)
  | 0, _ => by simpa [S25.levN] using h
  | j + 1, hj => by
    have ih := Bnd.levN h h0 hr j (by omega)
    have hl := levN_len fs i o j
    have := ih.lev1 (i := i) (f := at_ (at_ fs i) (j : Int)) (by rw [hl]; exact h0) (by rw [hl]; exact hr _ (at_mem (by omega)))
    refine ⟨fun x hx => ?_⟩
    have := this.all x hx
    omega
theorem ordP_rng (fs : List (List Int)) : ∀ k, ∀ x ∈ (ordP fs k).2, 0 ≤ x ∧ x < fs.length
  | 0 => by simp [ordP]
  | k + 1 => by
    have ih := ordP_rng fs k
    unfold ordP stepO
    split
    · rename_i j hj
      intro x hx
      rcases List.mem_append.1 hx with hx | hx
      · exact ih x hx
      · simp only [List.mem_cons, List.not_mem_nil, or_false] at hx
        have : j < fs.length := by
          unfold firstR at hj
          have := List.mem_of_find?_eq_some hj
          simpa using this
        omega
    · exact ih
theorem levM_bnd {fs : List (List Int)} (hfs : GfOk fs) {ord : List Int} (ho : ∀ x ∈ ord, 0 ≤ x ∧ x < fs.length) : ∀ k : Nat, k ≤ ord.length → Bnd (levM fs ord k) (k * 1000000)
  | 0, _ => ⟨fun x hx => by unfold levM at hx; rw [List.eq_of_mem_replicate hx]; omega⟩
  | k + 1, hk => by
    have ih := levM_bnd hfs ho k (by omega)
    have hi := ho _ (at_mem (l := ord) (j := k) (by omega))
    obtain ⟨q, hq⟩ : ∃ q : Nat, at_ ord (k : Int) = (q : Int) := ⟨(at_ ord (k : Int)).toNat, by omega⟩
    have hql : q < fs.length := by omega
    have hlm := levM_len fs ord k
    have h2 := hfs.len q hql
    have h3 := hfs.rng q hql
    have := Bnd.levN (fs := fs) (i := (q : Int)) ih (by rw [hlm]; omega) (by rw [hlm]; exact h3) (at_ fs (q : Int)).length (Nat.le_refl _)
    refine ⟨fun x hx => ?_⟩
    unfold levM at hx
    rw [hq] at hx
    have := this.all x hx
    omega
end Go.Aw.S25
/-
  Chapter 25: Levels.
-/
namespace Go.Aw.S25
open Go.RowKit Go.Proofs Go.Aw.Tab
set_option linter.unusedSimpArgs false
set_option linter.unusedVariables false
set_option maxRecDepth 10000
set_option maxHeartbeats 1000000
set_option pp.deepTerms false
set_option pp.deepTerms.threshold 4
set_option pp.maxSteps 1500
attribute [local simp] Lk.cells Nd.cells Dr.cells Pg.val intC boolC
variable {w0 : World} {n : Nat} {H : Heap} {K : Value → Nat → Heap → Prop} {p : Pg} {D E : Nat → Prop}
def levP (l : List Nd) : List Int := levM (feedsP l false) (ofP l) (ofP l).length
structure LvI (w0 : World) (H0 H : Heap) (n2 : Nat) (ov : Value) (o : List Int) : Prop where
  ow : OwR ⟨Try.prog, w0⟩ H (n2 + 1) (· = n2) 3 1 intC ov o
  fr : ∀ i, i < n2 → H i = H0 i
theorem Levels_ok (hp : PrR H w0 D p) (hD : ∀ i, D i → i < n) (hib : ∀ d ∈ p.nds, d.lks.length ≤ 1000000)
    (hk : checkP p ≠ 0 → ∀ n' H', n ≤ n' → (∀ i, i < n → H' i = H i) → K (.tuple #[.slice none 0 0, .int .i64 (checkP p)]) n' H')
    (hk2 : checkP p = 0 → (ofP p.nds).length < p.nds.length → ∀ n' H', n ≤ n' → (∀ i, i < n → H' i = H i) → K (.tuple #[.slice none 0 0, .int .i64 12]) n' H')
    (hk3 : checkP p = 0 → (ofP p.nds).length = p.nds.length → ∀ n' H' v E, n ≤ n' → (∀ i, i < n → H' i = H i) → (∀ i, E i → n ≤ i) → OwR ⟨Try.prog, w0⟩ H' n' E 3 1 intC v (levP p.nds) → K (.tuple #[v, .int .i64 0]) n' H') : ACall ⟨Try.prog, w0⟩ 21 [p.val] K n H := by
  refine ACall.run Try.func21 rfl Try.ntmps21 Try.results21 (by simp) fun J0 => ?_
  simp (disch := omega) [-hset_if, -Bool.decide_and, hset_ne]
  try rw [show (Value.agg #[.string p.nm, .int .i64 p.per, p.nv, p.dv]).cells.toList = [.string p.nm, .int .i64 p.per, p.nv, p.dv] from rfl]
  have hbx : hset n (.cells [.string p.nm, .int .i64 p.per, p.nv, p.dv] 25 1) H n = .cells [.string p.nm, .int .i64 p.per, p.nv, p.dv] 25 1 := hset_same _ _ _
  have hfr : ∀ i, i < n → hset n (.cells [.string p.nm, .int .i64 p.per, p.nv, p.dv] 25 1) H i = H i := fun i hi => hset_ne (by omega) _ _
  generalize hset n (.cells [.string p.nm, .int .i64 p.per, p.nv, p.dv] 25 1) H = H1 at *
  have hp1 : PrR H1 w0 D p := hp.frame (fun i hi => hfr i (hD i hi))
  have hnb := hp.nb
  simp (disch := omega) [-hset_if, -Bool.decide_and, hset_ne, hbx]
  refine build_ok hp1 (fun i hi => by have := hD i hi; omega) hib ?_ ?_
  · intro n' H' a1 a2 a3
    have a3b : (checkP p != 0) = true := by simpa using a3
    simp (disch := omega) [-hset_if, -Bool.decide_and, hset_ne, a3b]
    refine Fin_id ?_
    exact hk a3 n' H' (by omega) (fun i hi => by rw [a2 i (by omega), hfr i hi])
  · intro n' H' G M fv gv a1 a2 a3 a4
    have hl := check_len a3
    have hfs := a4.fs
    rw [links_feeds a3] at hfs
    have hGl := a4.lt
    have hfo := feeds_ok p.nds false hl
    have hfl := feeds_len p.nds false
    simp (disch := omega) [-hset_if, -Bool.decide_and, hset_ne]
    refine order_ok a4.gr (by omega) hfs (fun i hi => hi.2) (by rw [feeds_len]; exact hl) hfo ?_
    intro n2 H2 v E2 b1 b2 b3 b4
    have hor := ordP_rng (feedsP p.nds false) (feedsP p.nds false).length
    rw [feeds_len] at b4 hor
    replace b4 : OwR ⟨Try.prog, w0⟩ H2 n2 E2 3 1 intC v (ofP p.nds) := b4
    replace hor : ∀ x ∈ ofP p.nds, 0 ≤ x ∧ x < p.nds.length := hor
    have hol := ofP_len p.nds
    have hfr2 : ∀ i, i < n → H2 i = H i := fun i hi => by rw [b2 i (by omega), a2 i (by omega), hfr i hi]
    have hbx2 : H2 n = .cells [.string p.nm, .int .i64 p.per, p.nv, p.dv] 25 1 := by rw [b2 n (by omega), a2 n (by omega)]; exact hbx
    simp (disch := omega) [-hset_if, -Bool.decide_and, hset_ne, b4.sl.lenK, hbx2, hp1.ns.lenK]
    refine cif_dec (fun c1 => ?_) (fun c1 => ?_)
    · simp (disch := omega) [-hset_if, -Bool.decide_and, hset_ne]
      refine Fin_id ?_
      exact hk2 a3 (by omega) n2 H2 (by omega) hfr2
    have hoe : (ofP p.nds).length = p.nds.length := by omega
    replace hk3 := hk3 a3 hoe
    have hgr2 : H2 G = .cells [.map (some (new M)), fv, gv] 62 1 := by rw [b2 G (by omega)]; exact a4.gr
    obtain ⟨rs, hrs, r1, r2⟩ := hfs.frame (H' := H2) (fun i hi => b2 i hi.2)
    unfold levP at hk3
    generalize ofP p.nds = ord at *
    generalize feedsP p.nds false = fs at *
    simp (disch := omega) [-hset_if, -Bool.decide_and, hset_ne, b4.sl.lenK]
    refine ⟨by omega, ?_⟩
    have hI : LvI w0 H2 (hset n2 (.cells (reps ord.length [.int .i64 0]) 3 1) H2) n2 (.slice (some ⟨new n2, 0, none⟩) ord.length ord.length) (levM fs ord 0) := by
      refine ⟨?_, fun i hi => hset_ne (by omega) _ _⟩
      have := OwR.made (C := ⟨Try.prog, w0⟩) (f := intC) (T := 3) (sz := 1) (n := n2 + 1) (j := n2) (m := ord.length) (z := [.int .i64 0]) (x := (0 : Int)) (H := hset n2 (.cells (reps ord.length [.int .i64 0]) 3 1) H2) rfl (by omega) rfl (by omega) (hset_same _ _ _)
      rw [show levM fs ord 0 = List.replicate ord.length 0 by unfold levM; rw [hfl, hoe]]
      exact this
    generalize hset n2 (.cells (reps ord.length [.int .i64 0]) 3 1) H2 = H3 at *
    generalize Value.slice (some ⟨new n2, 0, none⟩) ord.length ord.length = ov at *
    refine AW.while (σ := Nat) (fun k => ord.length - k) (fun k => [(4, .pointer (some ⟨new G, 0, none⟩)), (7, ov), (31, v), (32, .int .i64 (ord.length : Int)), (33, .int .i64 (k : Int))])
      (fun k n4 H4 => n2 + 1 = n4 ∧ k ≤ ord.length ∧ LvI w0 H2 H4 n2 ov (levM fs ord k)) 0 ?_ ?_ ?_
    · simp (disch := omega) [-hset_if, -Bool.decide_and, hset_ne]
    · exact ⟨rfl, by omega, hI⟩
    clear hI
    rintro k _ H4 ⟨rfl, g1, ⟨g2, g3⟩⟩
    have hv4 : SlR ⟨Try.prog, w0⟩ H4 E2 1 intC v ord := b4.sl.frame (fun i hi => g3 i (b4.lt i hi))
    have hg4 : H4 G = .cells [.map (some (new M)), fv, gv] 62 1 := by rw [g3 G (by omega)]; exact hgr2
    have r14 := r1.frame (H' := H4) (fun i hi => g3 i (by omega))
    simp (disch := omega) [-hset_if, -Bool.decide_and, hset_ne]
    refine cif_dec (fun c2 => ?_) (fun c2 => ?_)
    · have hkl : k < ord.length := by omega
      have hi := hor _ (at_mem (l := ord) (j := k) hkl)
      obtain ⟨q, hq⟩ : ∃ q : Nat, at_ ord (k : Int) = (q : Int) := ⟨(at_ ord (k : Int)).toNat, by omega⟩
      have hqr : q < rs.length := by have := congrArg List.length hrs; rw [List.length_map] at this; omega
      have hqf : at_ fs (q : Int) = (at_ rs (q : Int)).2 := by rw [← hrs]; exact at_map hqr
      have r2q := r2 _ (at_mem hqr)
      have hbn := levM_bnd hfo (by rw [hfl]; exact hor) k (by omega)
      have hml := levM_len fs ord k
      have hrg := hfo.rng q (by omega)
      have hln := hfo.len q (by omega)
      have hnx : levM fs ord (k + 1) = levN fs (q : Int) (levM fs ord k) (at_ fs (q : Int)).length := by show levN fs (at_ ord (k : Int)) _ _ = _; rw [hq]
      rw [hqf] at hnx hrg hln
      simp (disch := omega) [-hset_if, -Bool.decide_and, hset_ne, hv4.ix elemS35, hv4.load0 shp3, hq, hg4, r14.ix elemS30, r14.load0 shp35, (r2q.frame (H' := H4) (fun i hi => g3 i (by omega))).lenK]
      refine AW.while (σ := Nat) (fun j => (at_ rs (q : Int)).2.length - j) (fun j => [(4, .pointer (some ⟨new G, 0, none⟩)), (7, ov), (9, .int .i64 (q : Int)), (31, v), (32, .int .i64 (ord.length : Int)), (33, .int .i64 (k : Int)), (43, (at_ rs (q : Int)).1), (44, .int .i64 ((at_ rs (q : Int)).2.length : Int)), (45, .int .i64 (j : Int))])
        (fun j n5 H5 => n2 + 1 = n5 ∧ j ≤ (at_ rs (q : Int)).2.length ∧ LvI w0 H2 H5 n2 ov (levN fs (q : Int) (levM fs ord k) j)) 0 ?_ ?_ ?_
      · simp (disch := omega) [-hset_if, -Bool.decide_and, hset_ne]
      · exact ⟨rfl, by omega, ⟨g2, g3⟩⟩
      rintro j _ H5 ⟨rfl, l1, ⟨l2, l3⟩⟩
      have r25 := r2q.frame (H' := H5) (fun i hi => l3 i (by omega))
      simp (disch := omega) [-hset_if, -Bool.decide_and, hset_ne]
      refine cif_dec (fun c3 => ?_) (fun c3 => ?_)
      · have hjl : j < (at_ rs (q : Int)).2.length := by omega
        have hx := hrg _ (at_mem (l := (at_ rs (q : Int)).2) (j := j) hjl)
        have hb5 := Bnd.levN (fs := fs) (i := (q : Int)) hbn (by rw [hml]; omega) (by rw [hml, hqf]; exact hrg) j (by rw [hqf]; omega)
        have hnl := levN_len fs (q : Int) (levM fs ord k) j
        rw [hml] at hnl
        have hst : levN fs (q : Int) (levM fs ord k) (j + 1) = lev1 (q : Int) (at_ (at_ rs (q : Int)).2 (j : Int)) (levN fs (q : Int) (levM fs ord k) j) := by rw [← hqf]; rfl
        generalize levN fs (q : Int) (levM fs ord k) j = o at *
        obtain ⟨x, hxe⟩ : ∃ x, at_ (at_ rs (q : Int)).2 (j : Int) = x := ⟨_, rfl⟩
        rw [hxe] at hx hst
        have hxo := hb5.at hx.1 (by omega)
        have hqo := hb5.at (i := (q : Int)) (by omega) (by omega)
        have hat : 0 ≤ (q : Int) ∧ (q : Int) < o.length := by omega
        simp (disch := omega) [-hset_if, -Bool.decide_and, hset_ne, r25.ix elemS35, r25.load0 shp3, hxe]
        refine AW.draw (X := ⟨_, 65, _, _⟩) (id := 14) mixed (.take 0 <| .take 1 <| .take 2 <| .take 3 <| .take 4 <| .take 5 <| .take 6 <| .take 7 <| .take 8 <| .take 9 <| .take 10 <| .take 11 <| .take 12 <| .each 13 [] (.done) <| .stop) (by kernel_rfl) ?_
        simp (disch := omega) [-hset_if, -Bool.decide_and, hset_ne, l2.sl.ix elemS35, l2.sl.load0 shp3]
        refine l2.store0 shp3 (by omega) (by omega) (mxI (at_ o (q : Int)) (at_ o x + 1)) (by simp) (by simp) (by simp) ?_
        intro H6 f1 f2
        have hst2 : lev1 (q : Int) x o = o.set (Int.toNat (q : Int)) (mxI (at_ o (q : Int)) (at_ o x + 1)) := by
          unfold lev1 mxI
          congr 1
          omega
        rw [← hst2, ← hst] at f2
        simp (disch := omega) [-hset_if, -Bool.decide_and, hset_ne]
        exact Next.mk (j + 1) (by first | omega | (dsimp only; omega)) (by simp (disch := omega) [-hset_if, -Bool.decide_and, hset_ne]) ⟨rfl, by omega, ⟨f2, fun i hi => by rw [f1 i (by omega), l3 i hi]⟩⟩
      · have hj : j = (at_ rs (q : Int)).2.length := by omega
        rw [hj, ← hnx] at l2
        simp (disch := omega) [-hset_if, -Bool.decide_and, hset_ne]
        exact Next.mk (k + 1) (by first | omega | (dsimp only; omega)) (by simp (disch := omega) [-hset_if, -Bool.decide_and, hset_ne]) ⟨rfl, by omega, ⟨l2, l3⟩⟩
    · have hk0 : k = ord.length := by omega
      subst hk0
      simp (disch := omega) [-hset_if, -Bool.decide_and, hset_ne]
      refine Fin_id ?_
      exact hk3 _ _ _ _ (by omega) (fun i hi => by rw [g3 i (by omega), hfr2 i hi]) (fun i hi => by omega) g2
end Go.Aw.S25
/-
  Chapter 25: the reference's Levels.
-/
namespace Go.Aw.S25
open Go.RowKit Go.Proofs Go.Aw.Tab
set_option linter.unusedSimpArgs false
set_option linter.unusedVariables false
set_option maxRecDepth 10000
set_option maxHeartbeats 1000000
set_option pp.deepTerms false
set_option pp.deepTerms.threshold 4
set_option pp.maxSteps 1500
attribute [local simp] Lk.cells Nd.cells Dr.cells Pg.val intC boolC
variable {w0 : World} {n : Nat} {H : Heap} {K : Value → Nat → Heap → Prop} {p : Pg} {D E : Nat → Prop}
structure LwI (w0 : World) (H0 H : Heap) (n3 m : Nat) (ov : Value) (o : List Int) : Prop where
  ow : OwR ⟨Try.prog, w0⟩ H n3 (· = m) 3 1 intC ov o
  fr : ∀ i, i ≠ m → H i = H0 i
theorem RLevels_ok (hp : PrR H w0 D p) (hD : ∀ i, D i → i < n) (hl : p.nds.length ≤ 64) (hoe : (ofP p.nds).length = p.nds.length)
    (hk : ∀ n' H' v E, n ≤ n' → (∀ i, i < n → H' i = H i) → (∀ i, E i → n ≤ i) → OwR ⟨Try.prog, w0⟩ H' n' E 3 1 intC v (levP p.nds) → K v n' H') : ACall ⟨Try.prog, w0⟩ 23 [p.val] K n H := by
  refine ACall.run Try.func23 rfl Try.ntmps23 Try.results23 (by simp) fun J0 => ?_
  simp (disch := omega) [-hset_if, -Bool.decide_and, hset_ne]
  try rw [show (Value.agg #[.string p.nm, .int .i64 p.per, p.nv, p.dv]).cells.toList = [.string p.nm, .int .i64 p.per, p.nv, p.dv] from rfl]
  have hbx : hset n (.cells [.string p.nm, .int .i64 p.per, p.nv, p.dv] 25 1) H n = .cells [.string p.nm, .int .i64 p.per, p.nv, p.dv] 25 1 := hset_same _ _ _
  have hfr : ∀ i, i < n → hset n (.cells [.string p.nm, .int .i64 p.per, p.nv, p.dv] 25 1) H i = H i := fun i hi => hset_ne (by omega) _ _
  generalize hset n (.cells [.string p.nm, .int .i64 p.per, p.nv, p.dv] 25 1) H = H1 at *
  have hp1 : PrR H1 w0 D p := hp.frame (fun i hi => hfr i (hD i hi))
  have hnb := hp.nb
  simp (disch := omega) [-hset_if, -Bool.decide_and, hset_ne, hbx]
  refine RFeeds_ok hp1 (fun i hi => by have := hD i hi; omega) (by omega) ?_
  intro m H2 fv a1 a2 a3
  have hbx2 : H2 n = .cells [.string p.nm, .int .i64 p.per, p.nv, p.dv] 25 1 := by rw [a2 n (by omega)]; exact hbx
  simp (disch := omega) [-hset_if, -Bool.decide_and, hset_ne, hbx2, hp1.ns.lenK]
  refine ⟨by omega, ?_⟩
  have how := OwR.made (C := ⟨Try.prog, w0⟩) (f := intC) (T := 3) (sz := 1) (n := m + 1) (j := m) (m := p.nds.length) (z := [.int .i64 0]) (x := (0 : Int)) (H := hset m (.cells (reps p.nds.length [.int .i64 0]) 3 1) H2) rfl (by omega) rfl (by omega) (hset_same _ _ _)
  have hf3 : ∀ i, i < m → hset m (.cells (reps p.nds.length [.int .i64 0]) 3 1) H2 i = H2 i := fun i hi => hset_ne (by omega) _ _
  generalize hset m (.cells (reps p.nds.length [.int .i64 0]) 3 1) H2 = H3 at *
  generalize Value.slice (some ⟨new m, 0, none⟩) p.nds.length p.nds.length = ov at *
  have hfr3 : ∀ i, i < n → H3 i = H i := fun i hi => by rw [hf3 i (by omega), a2 i (by omega), hfr i hi]
  have hbx3 : H3 n = .cells [.string p.nm, .int .i64 p.per, p.nv, p.dv] 25 1 := by rw [hf3 n (by omega)]; exact hbx2
  have hp3 : PrR H3 w0 D p := hp.frame (fun i hi => hfr3 i (hD i hi))
  simp (disch := omega) [-hset_if, -Bool.decide_and, hset_ne, hbx3]
  refine ROf_ok hp3 (fun i hi => by have := hD i hi; omega) hl ?_
  intro n3 H4 v E2 b1 b2 b3 b4
  have hfo := feeds_ok p.nds false hl
  have hfl := feeds_len p.nds false
  have hor : ∀ x ∈ ofP p.nds, 0 ≤ x ∧ x < p.nds.length := by have := ordP_rng (feedsP p.nds false) p.nds.length; rw [hfl] at this; exact this
  obtain ⟨rs, hrs, r1, r2⟩ := a3.frame (H' := H4) (fun i hi => by rw [b2 i (by omega), hf3 i (by omega)])
  have hI : LwI w0 H4 H4 n3 m ov (levM (feedsP p.nds false) (ofP p.nds) 0) := ⟨by
    rw [show levM (feedsP p.nds false) (ofP p.nds) 0 = List.replicate p.nds.length 0 by unfold levM; rw [hfl]]
    exact how.frame (by omega) (fun i hi => b2 i (by omega)), fun _ _ => rfl⟩
  unfold levP at hk
  generalize ofP p.nds = ord at *
  generalize feedsP p.nds false = fs at *
  simp (disch := omega) [-hset_if, -Bool.decide_and, hset_ne]
  refine AW.while (σ := Nat) (fun k => ord.length - k) (fun k => [(3, fv), (4, ov), (5, v), (6, .int .i64 (k : Int))])
    (fun k n4 H5 => n3 = n4 ∧ k ≤ ord.length ∧ LwI w0 H4 H5 n3 m ov (levM fs ord k)) 0 ?_ ?_ ?_
  · simp (disch := omega) [-hset_if, -Bool.decide_and, hset_ne]
  · exact ⟨rfl, by omega, hI⟩
  clear hI
  rintro k _ H5 ⟨rfl, g1, ⟨g2, g3⟩⟩
  have hv5 : SlR ⟨Try.prog, w0⟩ H5 E2 1 intC v ord := b4.sl.frame (fun i hi => g3 i (by have := b3 i hi; omega))
  have r15 := r1.frame (H' := H5) (fun i hi => g3 i (by omega))
  simp (disch := omega) [-hset_if, -Bool.decide_and, hset_ne, hv5.lenK]
  refine cif_dec (fun c2 => ?_) (fun c2 => ?_)
  · have hkl : k < ord.length := by omega
    have hi := hor _ (at_mem (l := ord) (j := k) hkl)
    obtain ⟨q, hq⟩ : ∃ q : Nat, at_ ord (k : Int) = (q : Int) := ⟨(at_ ord (k : Int)).toNat, by omega⟩
    have hqr : q < rs.length := by have := congrArg List.length hrs; rw [List.length_map] at this; omega
    have hqf : at_ fs (q : Int) = (at_ rs (q : Int)).2 := by rw [← hrs]; exact at_map hqr
    have r2q := r2 _ (at_mem hqr)
    have hbn := levM_bnd hfo (by rw [hfl]; exact hor) k (by omega)
    have hml := levM_len fs ord k
    have hrg := hfo.rng q (by omega)
    have hln := hfo.len q (by omega)
    have hnx : levM fs ord (k + 1) = levN fs (q : Int) (levM fs ord k) (at_ fs (q : Int)).length := by show levN fs (at_ ord (k : Int)) _ _ = _; rw [hq]
    rw [hqf] at hnx hrg hln
    simp (disch := omega) [-hset_if, -Bool.decide_and, hset_ne, hv5.ix elemS35, hv5.load0 shp3, hq]
    refine AW.while (σ := Nat) (fun j => (at_ rs (q : Int)).2.length - j) (fun j => [(3, fv), (4, ov), (5, v), (6, .int .i64 (k : Int)), (7, .int .i64 (q : Int)), (8, .int .i64 (j : Int))])
      (fun j n5 H6 => n3 = n5 ∧ j ≤ (at_ rs (q : Int)).2.length ∧ LwI w0 H4 H6 n3 m ov (levN fs (q : Int) (levM fs ord k) j)) 0 ?_ ?_ ?_
    · simp (disch := omega) [-hset_if, -Bool.decide_and, hset_ne]
    · exact ⟨rfl, by omega, ⟨g2, g3⟩⟩
    rintro j _ H6 ⟨rfl, l1, ⟨l2, l3⟩⟩
    have r26 := r2q.frame (H' := H6) (fun i hi => l3 i (by omega))
    have r16 := r1.frame (H' := H6) (fun i hi => l3 i (by omega))
    simp (disch := omega) [-hset_if, -Bool.decide_and, hset_ne, r16.ix elemS30, r16.load0 shp35, r26.lenK]
    refine cif_dec (fun c3 => ?_) (fun c3 => ?_)
    · have hjl : j < (at_ rs (q : Int)).2.length := by omega
      have hx := hrg _ (at_mem (l := (at_ rs (q : Int)).2) (j := j) hjl)
      have hb5 := Bnd.levN (fs := fs) (i := (q : Int)) hbn (by rw [hml]; omega) (by rw [hml, hqf]; exact hrg) j (by rw [hqf]; omega)
      have hnl := levN_len fs (q : Int) (levM fs ord k) j
      rw [hml] at hnl
      have hst : levN fs (q : Int) (levM fs ord k) (j + 1) = lev1 (q : Int) (at_ (at_ rs (q : Int)).2 (j : Int)) (levN fs (q : Int) (levM fs ord k) j) := by rw [← hqf]; rfl
      generalize levN fs (q : Int) (levM fs ord k) j = o at *
      obtain ⟨x, hxe⟩ : ∃ x, at_ (at_ rs (q : Int)).2 (j : Int) = x := ⟨_, rfl⟩
      rw [hxe] at hx hst
      have hxo := hb5.at hx.1 (by omega)
      have hqo := hb5.at (i := (q : Int)) (by omega) (by omega)
      simp (disch := omega) [-hset_if, -Bool.decide_and, hset_ne]
      refine AW.draw (X := ⟨_, 56, _, _⟩) (id := 11) mixed (.take 0 <| .take 1 <| .take 2 <| .take 3 <| .take 4 <| .take 5 <| .take 6 <| .take 7 <| .take 8 <| .take 9 <| .take 10 <| .take 11 <| .take 12 <| .take 13 <| .take 14 <| .take 15 <| .take 16 <| .take 17 <| .take 18 <| .each 19 [] (.done) <| .stop) (by kernel_rfl) ?_
      simp (disch := omega) [-hset_if, -Bool.decide_and, hset_ne, l2.sl.ix elemS35, l2.sl.load0 shp3, r16.ix elemS30, r16.load0 shp35, r26.ix elemS35, r26.load0 shp3, hxe]
      refine l2.store0 shp3 (by omega) (by omega) (mxI (at_ o (q : Int)) (1 + at_ o x)) (by simp) (by simp) (by simp) ?_
      intro H7 f1 f2
      have hst2 : lev1 (q : Int) x o = o.set (Int.toNat (q : Int)) (mxI (at_ o (q : Int)) (1 + at_ o x)) := by
        unfold lev1 mxI
        congr 1
        omega
      rw [← hst2, ← hst] at f2
      simp (disch := omega) [-hset_if, -Bool.decide_and, hset_ne]
      exact Next.mk (j + 1) (by first | omega | (dsimp only; omega)) (by simp (disch := omega) [-hset_if, -Bool.decide_and, hset_ne]) ⟨rfl, by omega, ⟨f2, fun i hi => by rw [f1 i hi, l3 i hi]⟩⟩
    · have hj : j = (at_ rs (q : Int)).2.length := by omega
      rw [hj, ← hnx] at l2
      simp (disch := omega) [-hset_if, -Bool.decide_and, hset_ne]
      exact Next.mk (k + 1) (by first | omega | (dsimp only; omega)) (by simp (disch := omega) [-hset_if, -Bool.decide_and, hset_ne]) ⟨rfl, by omega, ⟨l2, l3⟩⟩
  · have hk0 : k = ord.length := by omega
    subst hk0
    simp (disch := omega) [-hset_if, -Bool.decide_and, hset_ne]
    refine Fin_id ?_
    exact hk _ _ _ _ (by omega) (fun i hi => by rw [g3 i (by omega), b2 i (by omega), hfr3 i hi]) (fun i hi => by omega) g2
end Go.Aw.S25
/-
  Chapter 25: what depends on a node: the closure; links made.
-/
namespace Go.Aw.S25
open Go.RowKit Go.Proofs Go.Aw.Tab
set_option linter.unusedSimpArgs false
set_option linter.unusedVariables false
set_option maxRecDepth 10000
set_option maxHeartbeats 1000000
set_option pp.deepTerms false
set_option pp.deepTerms.threshold 4
set_option pp.maxSteps 1500
attribute [local simp] Lk.cells Nd.cells Dr.cells Pg.val intC boolC
variable {w0 : World} {n : Nat} {H : Heap} {K : Value → Nat → Heap → Prop} {p : Pg} {D E : Nat → Prop}
theorem bh_ok {V W : Nat} {sv ov : Value} {sb ob : List Bool} {x : Int} (hv : H V = .cells [sv] 64 1) (hw : H W = .cells [ov] 64 1) (hV : V < n) (hW : W < n) (hs : SlR ⟨Try.prog, w0⟩ H D 1 boolC sv sb) (ho : SlR ⟨Try.prog, w0⟩ H E 1 boolC ov ob) (h0 : 0 ≤ x) (h1 : x < sb.length) (h2 : x < ob.length)
    (hk : K (.bool (at_ sb x || at_ ob x)) n H) : ACall ⟨Try.prog, w0⟩ 50 [.int .i64 x, .pointer (some ⟨new V, 0, none⟩), .pointer (some ⟨new W, 0, none⟩)] K n H := by
  refine ACall.res (fun K' hr => ?_) (by simp) hk
  refine ACall.run Try.func50 rfl Try.ntmps50 Try.results50 (by simp) fun J0 => ?_
  cases hb : at_ sb x with
  | true =>
    simp (disch := omega) [-hset_if, -Bool.decide_and, hset_ne, hv, hs.ix elemS64, hs.load0 shp4, hb]
    exact hr.fin (by simp [hb]) (by omega) (fun i hi => by simp (disch := omega) only [hset_ne])
  | false =>
    simp (disch := omega) [-hset_if, -Bool.decide_and, hset_ne, hv, hw, hs.ix elemS64, hs.load0 shp4, hb, ho.ix elemS64, ho.load0 shp4]
    exact hr.fin (by simp [hb]) (by omega) (fun i hi => by simp (disch := omega) only [hset_ne])
theorem from_ok {s : ByteArray} {b : Bool} (hk : K (.agg (Lk.cells ⟨s, 0, ⟨#[]⟩, 0, 0, b, 0, 0⟩).toArray) n H) : ACall ⟨Try.prog, w0⟩ 45 [.string s, .bool b] K n H := by
  refine ACall.res (fun K' hr => ?_) (und_agg (by simp)) hk
  refine ACall.run Try.func45 rfl Try.ntmps45 Try.results45 (by simp) fun J0 => ?_
  simp (disch := omega) [-hset_if, -Bool.decide_and, hset_ne]
  exact hr.fin (by simp) (by omega) (fun i hi => by simp (disch := omega) only [hset_ne])
end Go.Aw.S25
/-
  Chapter 25: Valid.
-/
namespace Go.Aw.S25
open Go.RowKit Go.Proofs Go.Aw.Tab
set_option linter.unusedSimpArgs false
set_option linter.unusedVariables false
set_option maxRecDepth 10000
set_option maxHeartbeats 1000000
set_option pp.deepTerms false
set_option pp.deepTerms.threshold 4
set_option pp.maxSteps 1500
attribute [local simp] Lk.cells Nd.cells Dr.cells Pg.val intC boolC
variable {w0 : World} {n : Nat} {H : Heap} {K : Value → Nat → Heap → Prop} {p : Pg} {D E : Nat → Prop}
theorem _root_.Go.Aw.SlR.headEq {α : Type} {C : Ctx} {H : Heap} {D : Nat → Prop} {sz : Nat} {f : α → List Value} {v : Value} {xs : List α} (h : SlR C H D sz f v xs) {t : TypeId} (htk : tk C.P t = .slice) {e s b : Nat} (he : elemS C.P t = some (e, s, b)) {j : Nat} (hj : j ≤ xs.length) {q : IntKind} {k : Value → Prop} : sliceA C.P t v none (some (q, (j : Int))) k = k (headV v j) := by
  obtain ⟨A, c, rfl, h1, h2, h3, h4⟩ := h.shape
  unfold sliceA
  rw [htk]
  simp only [he, optK, lowI_none, highI_some, if_true, headV, Int.toNat_natCast]
  exact propext ⟨fun h => h.2, fun h => ⟨by omega, h⟩⟩
theorem _root_.Go.Aw.SlR.head' {α : Type} {C : Ctx} {H : Heap} {D : Nat → Prop} {sz : Nat} {f : α → List Value} {v : Value} {xs : List α} (h : SlR C H D sz f v xs) {j : Nat} (hj : j ≤ xs.length) : SlR C H D sz f (headV v j) (xs.take j) := by
  obtain ⟨A, c, rfl, h1, h2, h3, h4⟩ := h.shape
  have hl : (xs.take j).length = j := by simp; omega
  refine ⟨h.pos, fun x hx => h.flen x (List.mem_of_mem_take hx), A, c, by rw [hl]; rfl, by omega, fun hne => h2 (fun e => hne (by simp [e])), h3, fun a ha => ⟨(h4 a ha).1, fun i hi => ?_⟩⟩
  rw [(h4 a ha).2 i (by omega)]
  simp
/-- The k-th one of a list may stand there. -/
def valB (fs : List (List Int)) (l : List Int) (k : Nat) : Bool := decide (0 ≤ at_ l (k : Int) ∧ at_ l (k : Int) < l.length) && !(decide (at_ l (k : Int) ∈ l.take k)) && readyB (at_ fs (at_ l (k : Int))) (l.take k)
def validF (fs : List (List Int)) (l : List Int) : Bool := (List.range l.length).all (valB fs l)
def validP (p : Pg) (l : List Int) : Bool := decide (checkP p = 0) && decide (l.length = p.nds.length) && validF (feedsP p.nds false) l
theorem validF_no {fs : List (List Int)} {l : List Int} {k : Nat} (hk : k < l.length) (h : valB fs l k = false) : validF fs l = false := by
  unfold validF
  exact List.all_eq_false.2 ⟨k, by simpa using hk, by simpa using h⟩
theorem validF_yes {fs : List (List Int)} {l : List Int} (h : ∀ k : Nat, k < l.length → valB fs l k = true) : validF fs l = true := by
  unfold validF
  exact List.all_eq_true.2 fun k hk => h k (by simpa using hk)
/-- What is placed. -/
structure PlI (w0 : World) (H0 H : Heap) (n2 : Nat) (pv : Value) (fs : List (List Int)) (l : List Int) (k : Nat) : Prop where
  ex : ∃ bs : List Bool, OwR ⟨Try.prog, w0⟩ H (n2 + 1) (· = n2) 4 1 boolC pv bs ∧ bs.length = l.length ∧ ∀ q : Nat, q < l.length → at_ bs (q : Int) = decide ((q : Int) ∈ l.take k)
  bv : H (n2 + 1) = .cells [pv] 64 1
  fr : ∀ i, i < n2 → H i = H0 i
  ok : ∀ q : Nat, q < k → valB fs l q = true
theorem any_ready {bs : List Bool} {f l : List Int} {m : Nat} (hb : ∀ q : Nat, q < m → at_ bs (q : Int) = decide ((q : Int) ∈ l)) (hf : ∀ x ∈ f, 0 ≤ x ∧ x < m) : (f.any fun x => !(at_ bs x)) = !(readyB f l) := by
  unfold readyB
  rw [Bool.eq_iff_iff]
  simp only [Bool.not_eq_true', List.any_eq_true, List.all_eq_false, Bool.not_eq_true]
  constructor
  · rintro ⟨x, hx, h⟩
    refine ⟨x, hx, ?_⟩
    obtain ⟨q, rfl⟩ := at_drop0 (bs := []) (hf x hx).1
    rw [hb q (by have := (hf _ hx).2; omega)] at h
    exact h
  · rintro ⟨x, hx, h⟩
    refine ⟨x, hx, ?_⟩
    obtain ⟨q, rfl⟩ := at_drop0 (bs := []) (hf x hx).1
    rw [hb q (by have := (hf _ hx).2; omega)]
    exact h
theorem Valid_ok {v : Value} {l : List Int} (hp : PrR H w0 D p) (hD : ∀ i, D i → i < n) (hib : ∀ d ∈ p.nds, d.lks.length ≤ 1000000) (hv : SlR ⟨Try.prog, w0⟩ H E 1 intC v l) (hE : ∀ i, E i → i < n) (hll : l.length ≤ 9223372036854775807)
    (hk : K (.bool (validP p l)) n H) : ACall ⟨Try.prog, w0⟩ 18 [p.val, v] K n H := by
  refine ACall.res (fun K' hr => ?_) (by simp) hk
  refine ACall.run Try.func18 rfl Try.ntmps18 Try.results18 (by simp) fun J0 => ?_
  simp (disch := omega) [-hset_if, -Bool.decide_and, hset_ne]
  try rw [show (Value.agg #[.string p.nm, .int .i64 p.per, p.nv, p.dv]).cells.toList = [.string p.nm, .int .i64 p.per, p.nv, p.dv] from rfl]
  have hbx : hset n (.cells [.string p.nm, .int .i64 p.per, p.nv, p.dv] 25 1) H n = .cells [.string p.nm, .int .i64 p.per, p.nv, p.dv] 25 1 := hset_same _ _ _
  have hfr : ∀ i, i < n → hset n (.cells [.string p.nm, .int .i64 p.per, p.nv, p.dv] 25 1) H i = H i := fun i hi => hset_ne (by omega) _ _
  generalize hset n (.cells [.string p.nm, .int .i64 p.per, p.nv, p.dv] 25 1) H = H1 at *
  have hp1 : PrR H1 w0 D p := hp.frame (fun i hi => hfr i (hD i hi))
  have hnb := hp.nb
  simp (disch := omega) [-hset_if, -Bool.decide_and, hset_ne, hbx]
  refine build_ok hp1 (fun i hi => by have := hD i hi; omega) hib ?_ ?_
  · intro n' H' a1 a2 a3
    have a3b : (checkP p != 0) = true := by simpa using a3
    simp (disch := omega) [-hset_if, -Bool.decide_and, hset_ne, a3b]
    refine hr.fin ?_ (by omega) (fun i hi => by rw [a2 i (by omega), hfr i hi])
    unfold validP; rw [decide_eq_false a3]; rfl
  · intro n2 H2 G M fv gv a1 a2 a3 a4
    have hl := check_len a3
    have hfs := a4.fs
    rw [links_feeds a3] at hfs
    have hGl := a4.lt
    have hfo := feeds_ok p.nds false hl
    have hfl := feeds_len p.nds false
    have hfr2 : ∀ i, i < n → H2 i = H i := fun i hi => by rw [a2 i (by omega), hfr i hi]
    have hbx2 : H2 n = .cells [.string p.nm, .int .i64 p.per, p.nv, p.dv] 25 1 := by rw [a2 n (by omega)]; exact hbx
    have hv2 : SlR ⟨Try.prog, w0⟩ H2 E 1 intC v l := hv.frame (fun i hi => hfr2 i (hE i hi))
    have hent : entB Try.prog 36 = true := by kernel_rfl
    simp (disch := omega) [-hset_if, -Bool.decide_and, hset_ne, hv2.lenK, hbx2, hp1.ns.lenK]
    refine cif_bne (fun c0 => ?_) (fun c0 => ?_)
    rotate_left
    · simp (disch := omega) [-hset_if, -Bool.decide_and, hset_ne]
      refine hr.fin ?_ (by omega) hfr2
      unfold validP; rw [decide_eq_false (by omega : ¬ l.length = p.nds.length)]; simp
    have hlen : l.length = p.nds.length := by omega
    have hvp : validP p l = validF (feedsP p.nds false) l := by unfold validP; rw [decide_eq_true a3, decide_eq_true hlen]; rfl
    rw [hvp] at hr
    have hgr2 := a4.gr
    clear a4 hvp
    generalize feedsP p.nds false = fs at *
    obtain ⟨rs, hrs, r1, r2⟩ := hfs
    simp (disch := omega) [-hset_if, -Bool.decide_and, hset_ne, hv2.lenK]
    refine ⟨by omega, ?_⟩
    have hI : PlI w0 H2 (hset (n2 + 1) (.cells [.slice (some ⟨new n2, 0, none⟩) l.length l.length] 64 1) (hset n2 (.cells (reps l.length [.bool false]) 4 1) H2)) n2 (.slice (some ⟨new n2, 0, none⟩) l.length l.length) fs l 0 :=
      ⟨⟨_, OwR.made (T := 4) (sz := 1) (j := n2) (z := [.bool false]) (x := false) rfl (by omega) rfl (by omega) (by rw [hset_ne (by omega), hset_same]), by simp, fun q hq => by rw [at_nat (by simpa using hq)]; simp⟩, by simp (disch := omega) [-hset_if, -Bool.decide_and, hset_ne], fun i hi => by rw [hset_ne (by omega), hset_ne (by omega)], by omega⟩
    generalize hset (n2 + 1) (.cells [.slice (some ⟨new n2, 0, none⟩) l.length l.length] 64 1) (hset n2 (.cells (reps l.length [.bool false]) 4 1) H2) = H3 at *
    generalize Value.slice (some ⟨new n2, 0, none⟩) l.length l.length = pv at *
    refine AW.while (σ := Nat) (fun k => l.length - k) (fun k => [(1, v), (5, .pointer (some ⟨new G, 0, none⟩)), (7, .pointer (some ⟨new (n2 + 1), 0, none⟩)), (28, v), (29, .int .i64 (l.length : Int)), (30, .int .i64 (k : Int))])
      (fun k n4 H4 => n2 + 2 ≤ n4 ∧ k ≤ l.length ∧ PlI w0 H2 H4 n2 pv fs l k) 0 ?_ ?_ ?_
    · simp (disch := omega) [-hset_if, -Bool.decide_and, hset_ne]
    · exact ⟨by omega, by omega, hI⟩
    clear hI
    rintro k n4 H4 ⟨g0, g1, g2⟩
    obtain ⟨bs, b1, b2, b3⟩ := g2.ex
    have hbv := g2.bv
    have hfr4 : ∀ i, i < n → H4 i = H i := fun i hi => by rw [g2.fr i (by omega), hfr2 i hi]
    have hv4 : SlR ⟨Try.prog, w0⟩ H4 E 1 intC v l := hv.frame (fun i hi => hfr4 i (hE i hi))
    have hg4 : H4 G = .cells [.map (some (new M)), fv, gv] 62 1 := by rw [g2.fr G (by omega)]; exact hgr2
    have r14 := r1.frame (H' := H4) (fun i hi => g2.fr i (by omega))
    simp (disch := omega) [-hset_if, -Bool.decide_and, hset_ne]
    refine cif_dec (fun c2 => ?_) (fun c2 => ?_)
    · have hkl : k < l.length := by omega
      obtain ⟨x, hx⟩ : ∃ x, at_ l (k : Int) = x := ⟨_, rfl⟩
      have hvb : valB fs l k = (decide (0 ≤ x ∧ x < l.length) && !(decide (x ∈ l.take k)) && readyB (at_ fs x) (l.take k)) := by unfold valB; rw [hx]
      have hno := validF_no (fs := fs) hkl
      rw [hvb] at hno
      simp (disch := omega) [-hset_if, -Bool.decide_and, hset_ne, hv4.ix elemS35, hv4.load0 shp3, hx]
      by_cases c3 : x < 0
      · simp (disch := omega) [-hset_if, -Bool.decide_and, hset_ne, c3]
        refine hr.fin ?_ (by omega) hfr4
        rw [hno (by rw [decide_eq_false (by omega)]; rfl)]
      by_cases c4 : (l.length : Int) ≤ x
      · simp (disch := omega) [-hset_if, -Bool.decide_and, hset_ne, c3, hv4.lenK, c4]
        refine hr.fin ?_ (by omega) hfr4
        rw [hno (by rw [decide_eq_false (by omega)]; rfl)]
      obtain ⟨q, rfl⟩ := at_drop0 (bs := []) (x := x) (by omega)
      have hb3 := b3 q (by omega)
      have hqr : q < rs.length := by have := congrArg List.length hrs; rw [List.length_map] at this; omega
      have hqf : at_ fs (q : Int) = (at_ rs (q : Int)).2 := by rw [← hrs]; exact at_map hqr
      have r2q := (r2 _ (at_mem hqr)).frame (H' := H4) (fun i hi => g2.fr i (by omega))
      have hrg := hfo.rng q (by omega)
      have hln := hfo.len q (by omega)
      rw [hqf] at hrg hln hno hvb
      cases c5 : at_ bs (q : Int) with
      | true =>
        simp (disch := omega) [-hset_if, -Bool.decide_and, hset_ne, c3, hv4.lenK, c4, hbv, b1.sl.ix elemS64, b1.sl.load0 shp4, c5]
        refine hr.fin ?_ (by omega) hfr4
        rw [hno (by rw [← hb3, c5]; simp)]
      | false =>
        rw [c5] at hb3
        rw [← hb3] at hno hvb
        simp (disch := omega) [-hset_if, -Bool.decide_and, hset_ne, c3, hv4.lenK, c4, hbv, b1.sl.ix elemS64, b1.sl.load0 shp4, c5, hg4, r14.ix elemS30, r14.load0 shp35]
        refine containsInt_ok (p := fun x => !(at_ bs x)) (xs := (at_ rs (q : Int)).2) (D := fun i => n ≤ i ∧ i < n4) (r2q.mono (fun i hi => by omega)) (fun i hi => hi.2) (fun r hr1 n' H' K' e1 e2 e3 => ?_) (by omega) hent ?_
        · exact notPl2_ok (by rw [e2 _ (by omega)]; exact hbv) (by omega) (b1.sl.frame (fun i hi => e2 i (by omega))) (hrg r hr1).1 (by have := (hrg r hr1).2; omega) (e3 _ _ (by omega) (fun _ _ => rfl))
        · intro n5 H5 e1 e2
          have hfr5 : ∀ i, i < n → H5 i = H i := fun i hi => by rw [e2 i (by omega), hfr4 i hi]
          have hbv5 : H5 (n2 + 1) = .cells [pv] 64 1 := by rw [e2 _ (by omega)]; exact hbv
          have b15 := b1.frame (m := n2 + 1) (H' := H5) (Nat.le_refl _) (fun i hi => e2 i (by omega))
          rw [any_ready (m := l.length) b3 (fun x hx => by have := hrg x hx; omega)]
          cases c6 : readyB (at_ rs (q : Int)).2 (l.take k) with
          | false =>
            simp (disch := omega) [-hset_if, -Bool.decide_and, hset_ne, c6]
            refine hr.fin ?_ (by omega) hfr5
            rw [hno (by rw [c6]; simp)]
          | true =>
            simp (disch := omega) [-hset_if, -Bool.decide_and, hset_ne, c6, hbv5, b15.sl.ix elemS64]
            refine b15.store0 shp4 (by omega) (by omega) true (by simp) (by simp) (by simp) ?_
            intro H6 f1 f2
            rw [Int.toNat_natCast] at f2
            simp (disch := omega) [-hset_if, -Bool.decide_and, hset_ne]
            refine Next.mk (k + 1) (by first | omega | (dsimp only; omega)) (by simp (disch := omega) [-hset_if, -Bool.decide_and, hset_ne]) ⟨by omega, by omega, ⟨⟨_, f2, by rw [List.length_set]; exact b2, fun r hr => ?_⟩, by rw [f1 _ (by omega)]; exact hbv5, fun i hi => by rw [f1 i (by omega), e2 i (by omega), g2.fr i hi], fun r hr => ?_⟩⟩
            · rw [take_next hkl, hx, at_nat (by rw [List.length_set]; omega), List.getElem_set]
              have h3 := b3 r hr
              rw [at_nat (by omega)] at h3
              by_cases e : q = r
              · subst e; simp
              · rw [if_neg e, h3]
                have : ¬ ((r : Int) = (q : Int)) := by omega
                simp [this]
            · by_cases e : r = k
              · subst e; rw [hvb, c6, decide_eq_true (by omega)]; rfl
              · exact g2.ok r (by omega)
    · simp (disch := omega) [-hset_if, -Bool.decide_and, hset_ne]
      refine hr.fin ?_ (by omega) hfr4
      rw [validF_yes (fun q hq => g2.ok q (by omega))]
/-- The specification's Valid. -/
theorem RValid_ok {v : Value} {l : List Int} (hp : PrR H w0 D p) (hD : ∀ i, D i → i < n) (hv : SlR ⟨Try.prog, w0⟩ H E 1 intC v l) (hE : ∀ i, E i → i < n) (hll : l.length ≤ 9223372036854775807)
    (hk : K (.bool (validP p l)) n H) : ACall ⟨Try.prog, w0⟩ 19 [p.val, v] K n H := by
  refine ACall.res (fun K' hr => ?_) (by simp) hk
  refine ACall.run Try.func19 rfl Try.ntmps19 Try.results19 (by simp) fun J0 => ?_
  simp (disch := omega) [-hset_if, -Bool.decide_and, hset_ne]
  try rw [show (Value.agg #[.string p.nm, .int .i64 p.per, p.nv, p.dv]).cells.toList = [.string p.nm, .int .i64 p.per, p.nv, p.dv] from rfl]
  have hbx : hset n (.cells [.string p.nm, .int .i64 p.per, p.nv, p.dv] 25 1) H n = .cells [.string p.nm, .int .i64 p.per, p.nv, p.dv] 25 1 := hset_same _ _ _
  have hfr : ∀ i, i < n → hset n (.cells [.string p.nm, .int .i64 p.per, p.nv, p.dv] 25 1) H i = H i := fun i hi => hset_ne (by omega) _ _
  generalize hset n (.cells [.string p.nm, .int .i64 p.per, p.nv, p.dv] 25 1) H = H1 at *
  have hp1 : PrR H1 w0 D p := hp.frame (fun i hi => hfr i (hD i hi))
  have hnb := hp.nb
  simp (disch := omega) [-hset_if, -Bool.decide_and, hset_ne, hbx]
  refine Check_ok hp1 (fun i hi => by have := hD i hi; omega) ?_
  simp (disch := omega) [-hset_if, -Bool.decide_and, hset_ne]
  by_cases a3 : checkP p = 0
  rotate_left
  · have a3b : (checkP p != 0) = true := by simpa using a3
    simp (disch := omega) [-hset_if, -Bool.decide_and, hset_ne, a3b]
    refine hr.fin ?_ (by omega) hfr
    unfold validP; rw [decide_eq_false a3]; rfl
  have hv1 : SlR ⟨Try.prog, w0⟩ H1 E 1 intC v l := hv.frame (fun i hi => hfr i (hE i hi))
  simp (disch := omega) [-hset_if, -Bool.decide_and, hset_ne, a3, hv1.lenK, hbx, hp1.ns.lenK]
  refine cif_bne (fun c0 => ?_) (fun c0 => ?_)
  rotate_left
  · simp (disch := omega) [-hset_if, -Bool.decide_and, hset_ne]
    refine hr.fin ?_ (by omega) hfr
    unfold validP; rw [decide_eq_false (by omega : ¬ l.length = p.nds.length)]; simp
  have hlen : l.length = p.nds.length := by omega
  have hl := check_len a3
  have hvp : validP p l = validF (feedsP p.nds false) l := by unfold validP; rw [decide_eq_true a3, decide_eq_true hlen]; rfl
  rw [hvp] at hr
  simp (disch := omega) [-hset_if, -Bool.decide_and, hset_ne, hbx]
  refine RFeeds_ok hp1 (fun i hi => by have := hD i hi; omega) (by omega) ?_
  intro m H2 fv a1 a2 f3
  have hfo := feeds_ok p.nds false hl
  have hfl := feeds_len p.nds false
  clear hvp
  generalize feedsP p.nds false = fs at *
  have hfr2 : ∀ i, i < n → H2 i = H i := fun i hi => by rw [a2 i (by omega), hfr i hi]
  have hv2 : SlR ⟨Try.prog, w0⟩ H2 E 1 intC v l := hv.frame (fun i hi => hfr2 i (hE i hi))
  simp (disch := omega) [-hset_if, -Bool.decide_and, hset_ne]
  refine AW.while (σ := Nat) (fun k => l.length - k) (fun k => [(1, v), (5, fv), (6, .int .i64 (k : Int))])
    (fun k n3 H3 => n3 = m ∧ H3 = H2 ∧ k ≤ l.length ∧ ∀ q : Nat, q < k → valB fs l q = true) 0 ?_ ?_ ?_
  · simp (disch := omega) [-hset_if, -Bool.decide_and, hset_ne]
  · exact ⟨rfl, rfl, by omega, by omega⟩
  rintro k _ _ ⟨rfl, rfl, g1, g2⟩
  simp (disch := omega) [-hset_if, -Bool.decide_and, hset_ne, hv2.lenK]
  refine cif_dec (fun c1 => ?_) (fun c1 => ?_)
  · have hkl : k < l.length := by omega
    obtain ⟨x, hx⟩ : ∃ x, at_ l (k : Int) = x := ⟨_, rfl⟩
    have hvb : valB fs l k = (decide (0 ≤ x ∧ x < l.length) && !(decide (x ∈ l.take k)) && readyB (at_ fs x) (l.take k)) := by unfold valB; rw [hx]
    have hno := validF_no (fs := fs) hkl
    rw [hvb] at hno
    have ht2 := hv2.head' (j := k) (by omega)
    have htl : (l.take k).length = k := by simp; omega
    simp (disch := omega) [-hset_if, -Bool.decide_and, hset_ne]
    by_cases c3 : x < 0
    · refine AW.draw (X := ⟨_, 62, _, _⟩) (id := 7) mixed (.take 0 <| .take 1 <| .take 2 <| .take 3 <| .take 4 <| .take 5 <| .take 6 <| .take 7 <| .take 8 <| .take 9 <| .take 10 <| .take 11 <| .take 12 <| .take 13 <| .take 14 <| .take 15 <| .take 16 <| .take 17 <| .take 18 <| .take 19 <| .take 20 <| .take 21 <| .each 22 [] (.take 23 <| .take 24 <| .take 25 <| .take 26 <| .take 27 <| .take 28 <| .take 29 <| .take 30 <| .take 31 <| .take 32 <| .each 33 [] (.take 34 <| .take 35 <| .done) <| .stop) <| .stop) (by kernel_rfl) ?_
      simp (disch := omega) [-hset_if, -Bool.decide_and, hset_ne, hv2.ix elemS35, hv2.load0 shp3, hx, hv2.lenK, c3]
      refine hr.fin ?_ (by omega) hfr2
      rw [hno (by rw [decide_eq_false (by omega)]; rfl)]
    by_cases c4 : (l.length : Int) ≤ x
    · refine AW.draw (X := ⟨_, 62, _, _⟩) (id := 7) mixed (.take 0 <| .take 1 <| .take 2 <| .take 3 <| .take 4 <| .take 5 <| .take 6 <| .take 7 <| .take 8 <| .take 9 <| .take 10 <| .take 11 <| .take 12 <| .take 13 <| .take 14 <| .take 15 <| .take 16 <| .take 17 <| .take 18 <| .take 19 <| .take 20 <| .take 21 <| .each 22 [] (.take 23 <| .take 24 <| .take 25 <| .take 26 <| .take 27 <| .take 28 <| .take 29 <| .take 30 <| .take 31 <| .take 32 <| .each 33 [] (.take 34 <| .take 35 <| .done) <| .stop) <| .stop) (by kernel_rfl) ?_
      simp (disch := omega) [-hset_if, -Bool.decide_and, hset_ne, hv2.ix elemS35, hv2.load0 shp3, hx, hv2.lenK, c3, c4]
      refine hr.fin ?_ (by omega) hfr2
      rw [hno (by rw [decide_eq_false (by omega)]; rfl)]
    obtain ⟨q, rfl⟩ := at_drop0 (bs := []) (x := x) (by omega)
    by_cases c5 : (q : Int) ∈ l.take k
    · refine AW.draw (X := ⟨_, 62, _, _⟩) (id := 7) mixed (.take 0 <| .take 1 <| .take 2 <| .take 3 <| .take 4 <| .take 5 <| .take 6 <| .take 7 <| .take 8 <| .take 9 <| .take 10 <| .take 11 <| .take 12 <| .take 13 <| .take 14 <| .take 15 <| .take 16 <| .take 17 <| .take 18 <| .take 19 <| .take 20 <| .take 21 <| .each 22 [] (.take 23 <| .take 24 <| .take 25 <| .take 26 <| .take 27 <| .take 28 <| .take 29 <| .take 30 <| .take 31 <| .take 32 <| .each 33 [] (.take 34 <| .take 35 <| .done) <| .stop) <| .stop) (by kernel_rfl) ?_
      simp (disch := omega) [-hset_if, -Bool.decide_and, hset_ne, hv2.ix elemS35, hv2.load0 shp3, hx, hv2.lenK, c3, c4, hv2.headEq tk35 elemS35]
      refine has_ok (l := l.take k) (x := (q : Int)) ht2 (by omega) ?_
      simp (disch := omega) [-hset_if, -Bool.decide_and, hset_ne, c5]
      refine hr.fin ?_ (by omega) hfr2
      rw [hno (by rw [decide_eq_true c5]; simp)]
    have hln := hfo.len q (by omega)
    refine AW.draw (X := ⟨_, 62, _, _⟩) (id := 7) mixed (.take 0 <| .take 1 <| .take 2 <| .take 3 <| .take 4 <| .take 5 <| .take 6 <| .take 7 <| .take 8 <| .take 9 <| .take 10 <| .take 11 <| .take 12 <| .take 13 <| .take 14 <| .take 15 <| .take 16 <| .take 17 <| .take 18 <| .take 19 <| .take 20 <| .take 21 <| .each 22 [] (.take 23 <| .take 24 <| .take 25 <| .take 26 <| .take 27 <| .take 28 <| .take 29 <| .take 30 <| .take 31 <| .take 32 <| .each 33 [] (.take 34 <| .take 35 <| .done) <| .stop) <| .stop) (by kernel_rfl) ?_
    simp (disch := omega) [-hset_if, -Bool.decide_and, hset_ne, hv2.ix elemS35, hv2.load0 shp3, hx, hv2.lenK, c3, c4, hv2.headEq tk35 elemS35]
    refine has_ok (l := l.take k) (x := (q : Int)) ht2 (by omega) ?_
    simp (disch := omega) [-hset_if, -Bool.decide_and, hset_ne, c5, hv2.ix elemS35, hv2.load0 shp3, hx, hv2.headEq tk35 elemS35]
    refine ready_ok (fs := fs) (done := l.take k) (k := q) f3 ht2 (by omega) (by omega) (by omega) ?_
    cases c6 : readyB (at_ fs (q : Int)) (l.take k) with
    | false =>
      simp (disch := omega) [-hset_if, -Bool.decide_and, hset_ne, c6]
      refine hr.fin ?_ (by omega) hfr2
      rw [hno (by rw [c6]; simp)]
    | true =>
      simp (disch := omega) [-hset_if, -Bool.decide_and, hset_ne, c6]
      exact Next.mk (k + 1) (by first | omega | (dsimp only; omega)) (by simp (disch := omega) [-hset_if, -Bool.decide_and, hset_ne]) ⟨rfl, rfl, by omega, fun r hr => (by
        by_cases e : r = k
        · subst e; rw [hvb, c6, decide_eq_true (by omega), decide_eq_false c5]; rfl
        · exact g2 r (by omega))⟩
  · simp (disch := omega) [-hset_if, -Bool.decide_and, hset_ne]
    refine hr.fin ?_ (by omega) hfr2
    rw [validF_yes (fun q hq => g2 q (by omega))]
end Go.Aw.S25
