/-
  Chapter 25: levels.
-/
import Derived.Test.YtmjhbococmnppaaS25G
namespace Go.Aw.S25
open Go.RowKit Go.Proofs Go.Aw.Tab
set_option linter.unusedSimpArgs false
set_option linter.unusedVariables false
set_option maxRecDepth 10000
set_option maxHeartbeats 1000000
set_option pp.deepTerms false
set_option pp.deepTerms.threshold 4
set_option pp.maxSteps 1500
attribute [local simp] Lk.cells Nd.cells Dr.cells Pg.val intC boolC
variable {w0 : World} {n : Nat} {H : Heap} {K : Value → Nat → Heap → Prop} {p : Pg} {D E : Nat → Prop}
theorem levelsLaw_ok (hp : PrR H w0 D p) (hD : ∀ i, D i → i < n) (hk : ∀ n' H', n ≤ n' → (∀ i, i < n → H' i = H i) → K (.bool true) n' H') : ACall ⟨Try.prog, w0⟩ 9 [p.val] K n H := by
  refine ACall.run Try.func9 rfl Try.ntmps9 Try.results9 (by simp) fun J0 => ?_
  simp (disch := omega) [-hset_if, -Bool.decide_and, hset_ne]
  try rw [show (Value.agg #[.string p.nm, .int .i64 p.per, p.nv, p.dv]).cells.toList = [.string p.nm, .int .i64 p.per, p.nv, p.dv] from rfl]
  have hbx : hset n (.cells [.string p.nm, .int .i64 p.per, p.nv, p.dv] 25 1) H n = .cells [.string p.nm, .int .i64 p.per, p.nv, p.dv] 25 1 := hset_same _ _ _
  have hfr : ∀ i, i < n → hset n (.cells [.string p.nm, .int .i64 p.per, p.nv, p.dv] 25 1) H i = H i := fun i hi => hset_ne (by omega) _ _
  generalize hset n (.cells [.string p.nm, .int .i64 p.per, p.nv, p.dv] 25 1) H = H1 at *
  have hp1 : PrR H1 w0 D p := hp.frame (fun i hi => hfr i (hD i hi))
  have hnb := hp.nb
  have hD1 : ∀ i, D i → i < n + 1 := fun i hi => by have := hD i hi; omega
  refine awake_ok ?_
  simp (disch := omega) [-hset_if, -Bool.decide_and, hset_ne, hbx]
  refine Small_ok hp1 hD1 ?_
  cases hs : smallB p 64 with
  | false =>
    simp (disch := omega) [-hset_if, -Bool.decide_and, hset_ne, hs]
    refine Fin_id ?_
    exact hk _ _ (by omega) hfr
  | true =>
  have hib := small_ib hs
  have hsl := small_len hs
  simp (disch := omega) [-hset_if, -Bool.decide_and, hset_ne, hs, hbx]
  by_cases hc : checkP p = 0
  rotate_left
  · have hcb : (checkP p != 0) = true := by simpa using hc
    refine Levels_ok hp1 hD1 hib ?_ (fun h => absurd h hc) (fun h => absurd h hc)
    intro _ n2 H2 a1 a2
    have hp2 := hp1.frame (H' := H2) (fun i hi => a2 i (hD1 i hi))
    have hbx2 : H2 n = .cells [.string p.nm, .int .i64 p.per, p.nv, p.dv] 25 1 := by rw [a2 n (by omega)]; exact hbx
    simp (disch := omega) [-hset_if, -Bool.decide_and, hset_ne, hbx2]
    refine OFeeds_ok hp2 (fun i hi => by have := hD i hi; omega) hib ?_ (fun h => absurd h hc)
    intro _ n3 H3 b1 b2
    simp (disch := omega) [-hset_if, -Bool.decide_and, hset_ne, hcb]
    refine Fin_id ?_
    exact hk _ _ (by omega) (fun i hi => by rw [b2 i (by omega), a2 i (by omega), hfr i hi])
  have hl := check_len hc
  have hfo := feeds_ok p.nds false hl
  have hfl := feeds_len p.nds false
  by_cases ho : (ofP p.nds).length < p.nds.length
  · refine Levels_ok hp1 hD1 hib (fun h => absurd hc h) ?_ (fun _ h => by omega)
    intro _ _ n2 H2 a1 a2
    have hp2 := hp1.frame (H' := H2) (fun i hi => a2 i (hD1 i hi))
    have hbx2 : H2 n = .cells [.string p.nm, .int .i64 p.per, p.nv, p.dv] 25 1 := by rw [a2 n (by omega)]; exact hbx
    simp (disch := omega) [-hset_if, -Bool.decide_and, hset_ne, hbx2]
    refine OFeeds_ok hp2 (fun i hi => by have := hD i hi; omega) hib (fun h => absurd hc h) ?_
    intro _ n3 H3 v3 b1 b2 b3
    simp (disch := omega) [-hset_if, -Bool.decide_and, hset_ne]
    refine Fin_id ?_
    exact hk _ _ (by omega) (fun i hi => by rw [b2 i (by omega), a2 i (by omega), hfr i hi])
  have hoe : (ofP p.nds).length = p.nds.length := by have := ofP_len p.nds; omega
  have hlv := lev_ok hl hoe
  refine Levels_ok hp1 hD1 hib (fun h => absurd hc h) (fun _ h => absurd h ho) ?_
  intro _ _ n2 H2 lv E2 a1 a2 a3 a4
  have hp2 := hp1.frame (H' := H2) (fun i hi => a2 i (hD1 i hi))
  have hbx2 : H2 n = .cells [.string p.nm, .int .i64 p.per, p.nv, p.dv] 25 1 := by rw [a2 n (by omega)]; exact hbx
  simp (disch := omega) [-hset_if, -Bool.decide_and, hset_ne, hbx2]
  refine OFeeds_ok hp2 (fun i hi => by have := hD i hi; omega) hib (fun h => absurd hc h) ?_
  intro _ n4 H4 fv d1 d2 d3
  have hp4 := hp2.frame (H' := H4) (fun i hi => d2 i (by have := hD i hi; omega))
  have hbx4 : H4 n = .cells [.string p.nm, .int .i64 p.per, p.nv, p.dv] 25 1 := by rw [d2 n (by omega)]; exact hbx2
  have l4 := a4.sl.frame (H' := H4) (fun i hi => d2 i (a4.lt i hi))
  have hE2 := a4.lt
  have hfr4 : ∀ i, i < n → H4 i = H i := fun i hi => by rw [d2 i (by omega), a2 i (by omega), hfr i hi]
  obtain ⟨hs1, hs2⟩ := srt_ok hfo hlv
  obtain ⟨fs, hfs⟩ : ∃ fs, feedsP p.nds false = fs := ⟨_, rfl⟩
  rw [hfs] at d3 hfo hfl hlv hs1 hs2
  have hlk := d3.lenK
  rw [hfl] at hlk
  obtain ⟨rs, hrs, r1, r2⟩ := d3
  have hrl : rs.length = fs.length := by rw [← hrs, List.length_map]
  clear a4 a2 d2
  generalize levP p.nds = F at *
  have hFl : F.length = p.nds.length := by rw [hlv.len, hfl]
  have hllk := l4.lenK
  rw [hFl] at hllk
  simp (disch := omega) [-hset_if, -Bool.decide_and, hset_ne, hllk, hlk, hbx4, hp4.ns.lenK]
  refine AW.while (σ := EV) (fun s => p.nds.length - s.j) (fun s => [(1, .pointer (some ⟨new n, 0, none⟩)), (3, lv), (5, fv), (7, s.v), (8, .int .i64 (s.j : Int))])
    (fun s n5 H5 => s.j ≤ p.nds.length ∧ SelI w0 H4 H5 n4 n5 s.v s.E (srtP F p.nds.length s.j)) ⟨0, .slice none 0 0, fun _ => False⟩ ?_ ?_ ?_
  · simp (disch := omega) [-hset_if, -Bool.decide_and, hset_ne]
  · exact ⟨by simp, ⟨OwR.nil (by omega), fun _ h => h.elim, fun _ _ => rfl, by omega⟩⟩
  rintro ⟨k, v, E5⟩ n5 H5 ⟨g1, g2⟩
  dsimp only at g1 g2 ⊢
  have hb5 : H5 n = .cells [.string p.nm, .int .i64 p.per, p.nv, p.dv] 25 1 := by rw [g2.fr n (by omega)]; exact hbx4
  have hp5 := hp4.frame (H' := H5) (fun i hi => g2.fr i (by have := hD i hi; omega))
  have hpos : ∀ k : Nat, (srtP F p.nds.length k).length ≤ 64 * k := fun k => by
    induction k with
    | zero => simp [srtP]
    | succ k ih =>
      rw [srtP, List.length_append]
      have := selP_len (fun i => decide (at_ F (i : Int) = (k : Int))) p.nds.length
      unfold lvOf
      omega
  simp (disch := omega) [-hset_if, -Bool.decide_and, hset_ne, hb5, hp5.ns.lenK]
  refine cif_dec (fun e1 => ?_) (fun e1 => ?_)
  · have hsk := hpos k
    simp (disch := omega) [-hset_if, -Bool.decide_and, hset_ne]
    refine AW.while (σ := EV) (fun s => p.nds.length - s.j) (fun s => [(1, .pointer (some ⟨new n, 0, none⟩)), (3, lv), (5, fv), (8, .int .i64 (k : Int)), (7, s.v), (9, .int .i64 (s.j : Int))])
      (fun s n6 H6 => s.j ≤ p.nds.length ∧ SelI w0 H4 H6 n4 n6 s.v s.E (srtP F p.nds.length k ++ selP (fun i => decide (at_ F (i : Int) = (k : Int))) s.j)) ⟨0, v, E5⟩ ?_ ?_ ?_
    · simp (disch := omega) [-hset_if, -Bool.decide_and, hset_ne]
    · exact ⟨by simp, by simpa [selP] using g2⟩
    clear g2 hb5 hp5
    rintro ⟨j, v6, E6⟩ n6 H6 ⟨l1, l2⟩
    dsimp only at l1 l2 ⊢
    have hle := l2.le
    have hsj := selP_len (fun i => decide (at_ F (i : Int) = (k : Int))) j
    have hsn := selP_next (fun i => decide (at_ F (i : Int) = (k : Int))) j
    have l6 := l4.frame (H' := H6) (fun i hi => l2.fr i (by have := hE2 i hi; omega))
    have hllk6 := l6.lenK
    rw [hFl] at hllk6
    simp (disch := omega) [-hset_if, -Bool.decide_and, hset_ne, hllk6]
    refine cif_dec (fun e2 => ?_) (fun e2 => ?_)
    · simp (disch := omega) [-hset_if, -Bool.decide_and, hset_ne, l6.ix elemS35, l6.load0 shp3]
      by_cases e3 : at_ F (j : Int) = (k : Int)
      · have e4 : (at_ F (j : Int) == (k : Int)) = true := by simpa using e3
        rw [decide_eq_true e3, if_pos rfl] at hsn
        have hsn2 : srtP F p.nds.length k ++ selP (fun i => decide (at_ F (i : Int) = (k : Int))) (j + 1) = (srtP F p.nds.length k ++ selP (fun i => decide (at_ F (i : Int) = (k : Int))) j) ++ [(j : Int)] := by rw [hsn, List.append_assoc]
        have hll : (srtP F p.nds.length k ++ selP (fun i => decide (at_ F (i : Int) = (k : Int))) j).length ≤ 10000 := by rw [List.length_append]; omega
        simp (disch := omega) [-hset_if, -Bool.decide_and, hset_ne, e4]
        refine l2.ou.push elemS35 zero3 (by simp) (j : Int) rfl rfl rfl (by first | omega | (dsimp only; omega)) (by first | omega | (dsimp only; omega)) ?_
        intro v7 n7 H7 E7 q1 q2 q3 q4 q5
        simp (disch := omega) [-hset_if, -Bool.decide_and, hset_ne]
        exact Next.mk ⟨j + 1, v7, E7⟩ (by first | omega | (dsimp only; omega)) (by simp (disch := omega) [-hset_if, -Bool.decide_and, hset_ne]) ⟨(by first | omega | (dsimp only; omega)), ⟨by dsimp only; rw [hsn2]; exact q5, fun i hi => by rcases q4 i hi with h | h; exact l2.ne i h; omega, fun i hi => by rw [q3 i (by omega) (fun e => by have := l2.ne i e; omega), l2.fr i hi], by omega⟩⟩
      · have e4 : (at_ F (j : Int) == (k : Int)) = false := by simpa using e3
        rw [decide_eq_false e3, if_neg (by simp), List.append_nil] at hsn
        simp (disch := omega) [-hset_if, -Bool.decide_and, hset_ne, e4]
        exact Next.mk ⟨j + 1, v6, E6⟩ (by first | omega | (dsimp only; omega)) (by simp (disch := omega) [-hset_if, -Bool.decide_and, hset_ne]) ⟨(by first | omega | (dsimp only; omega)), ⟨by dsimp only; rw [hsn]; exact l2.ou, l2.ne, l2.fr, l2.le⟩⟩
    · have hj : j = p.nds.length := by omega
      subst hj
      simp (disch := omega) [-hset_if, -Bool.decide_and, hset_ne]
      exact Next.mk ⟨k + 1, v6, E6⟩ (by first | omega | (dsimp only; omega)) (by simp (disch := omega) [-hset_if, -Bool.decide_and, hset_ne]) ⟨(by first | omega | (dsimp only; omega)), l2⟩
  have hk0 : k = p.nds.length := by omega
  subst hk0
  have hle5 := g2.le
  have l5 := l4.frame (H' := H5) (fun i hi => g2.fr i (by have := hE2 i hi; omega))
  have r15 := r1.frame (H' := H5) (fun i hi => g2.fr i (by omega))
  have hllk5 := l5.lenK
  rw [hFl] at hllk5
  have hs3 : SlR ⟨Try.prog, w0⟩ H5 E5 1 intC v (srtP F p.nds.length p.nds.length) := g2.ou.sl
  have hE5 := g2.ou.lt
  have hfr5 : ∀ i, i < n → H5 i = H i := fun i hi => by rw [g2.fr i (by omega), hfr4 i hi]
  have r25 : ∀ r ∈ rs, SlR ⟨Try.prog, w0⟩ H5 (fun i => n2 ≤ i ∧ i < n4) 1 intC r.1 r.2 := fun r hr => (r2 r hr).frame (fun i hi => g2.fr i hi.2)
  clear g2
  simp (disch := omega) [-hset_if, -Bool.decide_and, hset_ne]
  refine AW.while (σ := Nat) (fun k => p.nds.length - k) (fun k => [(1, .pointer (some ⟨new n, 0, none⟩)), (3, lv), (5, fv), (7, v), (10, .int .i64 (k : Int))])
    (fun k n6 H6 => n6 = n5 ∧ H6 = H5 ∧ k ≤ p.nds.length) 0 ?_ ?_ ?_
  · simp (disch := omega) [-hset_if, -Bool.decide_and, hset_ne]
  · exact ⟨rfl, rfl, by omega⟩
  rintro k n6 H6 ⟨rfl, rfl, g1⟩
  simp (disch := omega) [-hset_if, -Bool.decide_and, hset_ne, hllk5]
  refine cif_dec (fun e2 => ?_) (fun e2 => ?_)
  · have hkr : k < rs.length := by omega
    have hkf : at_ fs (k : Int) = (at_ rs (k : Int)).2 := by rw [← hrs]; exact at_map hkr
    have r2k := r25 _ (at_mem hkr)
    rw [← hkf] at r2k
    have hln := hfo.len k (by omega)
    have hrg := hfo.rng k (by omega)
    have heq := hlv.eq k (by omega)
    have hbk := hlv.bnd k (by omega)
    obtain ⟨G, hG⟩ : ∃ G : Nat → Int, G = fun j => ((at_ fs (k : Int)).take j).foldl (fun a x => max a (1 + at_ F x)) 0 := ⟨_, rfl⟩
    have hGe : G (at_ fs (k : Int)).length = at_ F (k : Int) := by rw [hG, heq]; dsimp only; rw [List.take_length]; rfl
    have hG0 : G 0 = 0 := by rw [hG]; simp
    have hGb : ∀ j, 0 ≤ G j ∧ G j ≤ 64 := fun j => by
      rw [hG]
      exact ⟨(foldl_mx_ge F _ 0).1, foldl_mx_le F 64 _ 0 (by omega) (fun x hx => by
        have := hrg x (List.mem_of_mem_take hx)
        obtain ⟨q, rfl⟩ := at_drop0 (bs := []) this.1
        have := hlv.bnd q (by omega)
        omega)⟩
    have hGn : ∀ j : Nat, j < (at_ fs (k : Int)).length → G (j + 1) = max (G j) (1 + at_ F (at_ (at_ fs (k : Int)) (j : Int))) := fun j hj => by
      rw [hG]
      dsimp only
      rw [take_next hj, List.foldl_append]
      rfl
    clear hG
    simp (disch := omega) [-hset_if, -Bool.decide_and, hset_ne]
    refine AW.while (σ := Nat) (fun j => (at_ fs (k : Int)).length - j) (fun j => [(1, .pointer (some ⟨new n, 0, none⟩)), (3, lv), (5, fv), (7, v), (10, .int .i64 (k : Int)), (11, .int .i64 (G j)), (12, .int .i64 (j : Int))])
      (fun j n7 H7 => n7 = n6 ∧ H7 = H6 ∧ j ≤ (at_ fs (k : Int)).length) 0 ?_ ?_ ?_
    · rw [hG0]; simp (disch := omega) [-hset_if, -Bool.decide_and, hset_ne]
    · exact ⟨rfl, rfl, by omega⟩
    rintro j n7 H7 ⟨rfl, rfl, l1⟩
    simp (disch := omega) [-hset_if, -Bool.decide_and, hset_ne, r15.ix elemS30, r15.load0 shp35, r2k.lenK]
    refine cif_dec (fun l2 => ?_) (fun l2 => ?_)
    · have hx := hrg _ (at_mem (l := at_ fs (k : Int)) (j := j) l2)
      have hnx := hGn j l2
      have hgb := hGb j
      obtain ⟨x, hxe⟩ : ∃ x, at_ (at_ fs (k : Int)) (j : Int) = x := ⟨_, rfl⟩
      rw [hxe] at hx hnx
      obtain ⟨y, rfl⟩ := at_drop0 (bs := []) hx.1
      have hyb := hlv.bnd y (by omega)
      have hyF : y < F.length := by omega
      simp (disch := omega) [-hset_if, -Bool.decide_and, hset_ne, r15.ix elemS30, r15.load0 shp35, r2k.ix elemS35, r2k.load0 shp3, hxe, l5.ix elemS35, l5.load0 shp3]
      have hmx : mxI (G j) (1 + at_ F (y : Int)) = G (j + 1) := by rw [hnx]; unfold mxI; split <;> omega
      exact Next.mk (j + 1) (by first | omega | (dsimp only; omega)) (by rw [← hmx]; simp (disch := omega) [-hset_if, -Bool.decide_and, hset_ne]) ⟨rfl, rfl, by omega⟩
    · have hj : j = (at_ fs (k : Int)).length := by omega
      subst hj
      rw [hGe]
      have hne : (at_ F (k : Int) != at_ F (k : Int)) = false := by simp
      simp (disch := omega) [-hset_if, -Bool.decide_and, hset_ne, l5.ix elemS35, l5.load0 shp3, hne]
      exact Next.mk (k + 1) (by first | omega | (dsimp only; omega)) (by simp (disch := omega) [-hset_if, -Bool.decide_and, hset_ne]) ⟨rfl, rfl, by omega⟩
  · have hb5' := hb5
    simp (disch := omega) [-hset_if, -Bool.decide_and, hset_ne, hb5]
    have hlt := hs1
    refine Valid_ok hp5 (fun i hi => by have := hD i hi; omega) hib hs3 hE5 (by rw [← hfl, hs1]; omega) ?_
    have hva : validP p (srtP F p.nds.length p.nds.length) = true := by
      unfold validP
      rw [← hfl, hs1, hfs, decide_eq_true hc, (valid_iff hs1).2 hs2]; simp
    rw [hva]
    simp (disch := omega) [-hset_if, -Bool.decide_and, hset_ne]
    refine Fin_id ?_
    exact hk _ _ (by omega) hfr5
end Go.Aw.S25
/-
  Chapter 25: a program without its idle nodes, plain.
-/
namespace Go.Aw.S25
open Go.RowKit Go.Proofs Go.Aw.Tab
set_option linter.unusedSimpArgs false
set_option linter.unusedVariables false
theorem selP_split (f : Nat → Bool) (i : Nat) : ∀ d, ∃ t, selP f (i + d) = selP f i ++ t ∧ ∀ x ∈ t, (i : Int) ≤ x
  | 0 => ⟨[], by simp, by simp⟩
  | d + 1 => by
    obtain ⟨t, h1, h2⟩ := selP_split f i d
    rw [show i + (d + 1) = i + d + 1 by omega, selP_next, h1]
    refine ⟨t ++ (if f (i + d) then [((i + d : Nat) : Int)] else []), by rw [List.append_assoc], fun x hx => ?_⟩
    rcases List.mem_append.1 hx with hx | hx
    · exact h2 x hx
    · split at hx
      · simp only [List.mem_cons, List.not_mem_nil, or_false] at hx
        omega
      · simp at hx
theorem selP_here {f : Nat → Bool} {i m : Nat} (hi : i < m) (h : f i = true) : (selP f i).length < (selP f m).length ∧ at_ (selP f m) (((selP f i).length : Nat) : Int) = (i : Int) := by
  obtain ⟨t, h1, h2⟩ := selP_split f (i + 1) (m - (i + 1))
  rw [show i + 1 + (m - (i + 1)) = m by omega, selP_next, if_pos h] at h1
  rw [h1]
  refine ⟨by simp, ?_⟩
  rw [at_nat (by simp)]
  simp
theorem selP_not {f : Nat → Bool} {i m : Nat} (hi : i < m) (h : f i = false) (hl : (selP f i).length < (selP f m).length) : at_ (selP f m) (((selP f i).length : Nat) : Int) ≠ (i : Int) := by
  obtain ⟨t, h1, h2⟩ := selP_split f (i + 1) (m - (i + 1))
  rw [show i + 1 + (m - (i + 1)) = m by omega, selP_next, if_neg (by rw [h]; simp), List.append_nil] at h1
  rw [h1] at hl ⊢
  rw [List.length_append] at hl
  rw [at_nat (by simp; omega), List.getElem_append_right (Nat.le_refl _)]
  intro e
  have := h2 _ (List.getElem_mem (l := t) (n := (selP f i).length - (selP f i).length) (by omega))
  omega
theorem selP_nil {f : Nat → Bool} {m : Nat} (h : ∀ i, i < m → f i = false) : selP f m = [] := by
  unfold selP
  rw [List.filter_eq_nil_iff.2 (fun i hi => by rw [h i (by simpa using hi)]; simp)]
  rfl
/-- The nodes below i that are used. -/
def useN (f : Nat → Bool) (l : List Nd) (i : Nat) : List Nd := ((List.range i).filter f).map fun (j : Nat) => at_ l (j : Int)
theorem useN_next (f : Nat → Bool) (l : List Nd) (i : Nat) : useN f l (i + 1) = useN f l i ++ (if f i then [at_ l (i : Int)] else []) := by
  unfold useN
  rw [List.range_succ, List.filter_append, List.map_append]
  congr 1
  by_cases h : f i = true <;> simp [h]
theorem useN_len (f : Nat → Bool) (l : List Nd) (i : Nat) : (useN f l i).length ≤ i := by
  unfold useN
  rw [List.length_map]
  exact Nat.le_trans (List.length_filter_le _ _) (by simp)
theorem useN_mem {f : Nat → Bool} {l : List Nd} {d : Nd} : d ∈ useN f l l.length ↔ ∃ j : Nat, j < l.length ∧ f j = true ∧ d = at_ l (j : Int) := by
  unfold useN
  simp only [List.mem_map, List.mem_filter, List.mem_range]
  constructor
  · rintro ⟨j, ⟨h1, h2⟩, rfl⟩; exact ⟨j, h1, h2, rfl⟩
  · rintro ⟨j, h1, h2, rfl⟩; exact ⟨j, ⟨h1, h2⟩, rfl⟩
/-- A name on which a drive depends. -/
inductive UsN (l : List Nd) (ds : List Dr) : ByteArray → Prop
  | drv {d : Dr} (hd : d ∈ ds) (hn : d.lk.node ≠ ⟨#[]⟩) : UsN l ds d.lk.node
  | inp {d : Nd} {x : Lk} (hd : d ∈ l) (hu : UsN l ds d.name) (hx : x ∈ d.lks) (hn : x.node ≠ ⟨#[]⟩) : UsN l ds x.node
structure ChkOk (p : Pg) : Prop where
  len : p.nds.length ≤ 64
  nd : (p.nds.map (·.name)).Nodup
  ins : ∀ d ∈ p.nds, ∀ x ∈ d.lks, x.node ≠ ⟨#[]⟩ → ∃ e ∈ p.nds, e.name = x.node
  drs : ∀ d ∈ p.drs, d.lk.node ≠ ⟨#[]⟩ → ∃ e ∈ p.nds, e.name = d.lk.node
theorem known_iff {l : List Nd} {k : Lk} : knownB l k = true ↔ (k.node ≠ ⟨#[]⟩ → ∃ e ∈ l, e.name = k.node) := by
  unfold knownB
  rw [Bool.or_eq_true, decide_eq_true_iff, List.any_eq_true]
  constructor
  · rintro (h | ⟨e, he, h⟩) hn
    · exact absurd h hn
    · exact ⟨e, he, of_decide_eq_true h⟩
  · intro h
    by_cases e : k.node = ⟨#[]⟩
    · exact .inl e
    · obtain ⟨d, hd, he⟩ := h e
      exact .inr ⟨d, hd, decide_eq_true he⟩
theorem chk_iff {p : Pg} : checkP p = 0 ↔ ChkOk p := by
  unfold checkP
  constructor
  · intro h
    split at h
    · omega
    rename_i h1
    split at h
    · omega
    rename_i h2
    split at h
    · rename_i h3
      rw [Bool.and_eq_true, List.all_eq_true, List.all_eq_true] at h3
      refine ⟨by omega, by unfold nodupB at h2; simpa using h2, fun d hd x hx => ?_, fun d hd => ?_⟩
      · have := h3.1 d hd
        unfold inB at this
        rw [List.all_eq_true] at this
        exact known_iff.1 (this x hx)
      · exact known_iff.1 (h3.2 d hd)
    · omega
  · intro h
    rw [if_neg (by have := h.len; omega), if_neg (by unfold nodupB; rw [decide_eq_true h.nd]; simp), if_pos]
    rw [Bool.and_eq_true, List.all_eq_true, List.all_eq_true]
    refine ⟨fun d hd => ?_, fun d hd => known_iff.2 (h.drs d hd)⟩
    unfold inB
    rw [List.all_eq_true]
    exact fun x hx => known_iff.2 (h.ins d hd x hx)
theorem name_inj {l : List Nd} (h : (l.map (·.name)).Nodup) {i j : Nat} (hi : i < l.length) (hj : j < l.length) (e : (at_ l (i : Int)).name = (at_ l (j : Int)).name) : i = j := by
  exact nodup_at (by unfold nodupB; exact decide_eq_true h) hi hj e
theorem takes_iff {l : List Nd} {i k : Nat} : takesB l i k true = true ↔ ∃ x ∈ (at_ l (k : Int)).lks, x.node ≠ ⟨#[]⟩ ∧ x.node = (at_ l (i : Int)).name := by
  unfold takesB
  rw [List.any_eq_true]
  constructor
  · rintro ⟨x, hx, h⟩
    unfold tkB at h
    simp only [Bool.and_eq_true, Bool.not_eq_true', decide_eq_false_iff_not, decide_eq_true_iff] at h
    exact ⟨x, hx, h.1.1, h.1.2⟩
  · rintro ⟨x, hx, h1, h2⟩
    refine ⟨x, hx, ?_⟩
    unfold tkB
    simp only [Bool.and_eq_true, Bool.not_eq_true', decide_eq_false_iff_not, decide_eq_true_iff]
    exact ⟨⟨h1, h2⟩, rfl⟩
theorem us_iff {p : Pg} (hc : checkP p = 0) {i : Nat} (hi : i < p.nds.length) : Us (feedsP p.nds true) (srcs p.nds p.drs) (i : Int) ↔ UsN p.nds p.drs (at_ p.nds (i : Int)).name := by
  have hk := chk_iff.1 hc
  have hfl := feeds_len p.nds true
  have hR := feeds_Rng hc
  constructor
  · intro h
    generalize hx : (i : Int) = x at h
    induction h generalizing i with
    | @src x h =>
      subst hx
      obtain ⟨d, hd, hx⟩ := List.mem_flatMap.1 h
      obtain ⟨y, hy, h1, h2⟩ := linksP_mem.1 hx
      simp only [List.mem_cons, List.not_mem_nil, or_false] at hy
      subst hy
      unfold lkB at h1
      have hn : d.lk.node ≠ ⟨#[]⟩ := by simpa using h1
      obtain ⟨q, e1, e2, e3, e4⟩ := drs_find hc hd hn
      have : q = i := by omega
      subst this
      rw [e4]
      exact .drv hd hn
    | @more k x h hk2 ih =>
      subst hx
      have hkr := h.rng hR
      obtain ⟨q, rfl⟩ := at_drop0 (bs := []) hkr.1
      have hq : q < p.nds.length := by omega
      have hu := ih hq rfl
      have ht : takesB p.nds i q true = true := by
        rw [feeds_take hi hq]; exact decide_eq_true hk2
      obtain ⟨x, hx, h1, h2⟩ := takes_iff.1 ht
      rw [← h2]
      exact .inp (at_mem hq) hu hx h1
  · intro h
    generalize hs : (at_ p.nds (i : Int)).name = s at h
    induction h generalizing i with
    | @drv d hd hn =>
      obtain ⟨q, e1, e2, e3, e4⟩ := drs_find hc hd hn
      have : i = q := name_inj hk.nd hi e2 (by rw [hs, e4])
      subst this
      exact .src (List.mem_flatMap.2 ⟨d, hd, linksP_mem.2 ⟨d.lk, by simp, by unfold lkB; simp [hn], e3.symm⟩⟩)
    | @inp d x hd hu hx hn ih =>
      obtain ⟨k, hk1, hke⟩ := mem_at hd
      have hk2 := ih hk1 (by rw [hke])
      refine .more hk2 ?_
      have ht : takesB p.nds i k true = true := takes_iff.2 ⟨x, by rw [hke]; exact hx, hn, hs.symm⟩
      rw [feeds_take hi hk1] at ht
      exact of_decide_eq_true ht
/-- Without the idle nodes. -/
def sub (p : Pg) (v : Value) : Pg := { p with nv := v, nds := useN (usedB (feedsP p.nds true) (srcs p.nds p.drs)) p.nds p.nds.length }
theorem sub_used {p : Pg} (hc : checkP p = 0) {d : Nd} (hd : d ∈ p.nds) (hu : UsN p.nds p.drs d.name) (v : Value) : d ∈ (sub p v).nds := by
  obtain ⟨k, hk, e⟩ := mem_at hd
  refine useN_mem.2 ⟨k, hk, ?_, e.symm⟩
  rw [usedB_iff (feeds_Rng hc) (by rw [feeds_len]; exact hk), us_iff hc hk, e]
  exact hu
theorem sub_mem {p : Pg} (hc : checkP p = 0) {d : Nd} {v : Value} (hd : d ∈ (sub p v).nds) : d ∈ p.nds ∧ UsN p.nds p.drs d.name := by
  obtain ⟨j, h1, h2, rfl⟩ := useN_mem.1 hd
  refine ⟨at_mem h1, ?_⟩
  rw [usedB_iff (feeds_Rng hc) (by rw [feeds_len]; exact h1), us_iff hc h1] at h2
  exact h2
theorem sub_check {p : Pg} (hc : checkP p = 0) (v : Value) : checkP (sub p v) = 0 := by
  have hk := chk_iff.1 hc
  rw [chk_iff]
  refine ⟨Nat.le_trans (useN_len _ _ _) hk.len, ?_, fun d hd x hx hn => ?_, fun d hd hn => ?_⟩
  · have hsub : ((useN (usedB (feedsP p.nds true) (srcs p.nds p.drs)) p.nds p.nds.length).map (·.name)).Sublist (p.nds.map (·.name)) := by
      refine List.Sublist.map _ ?_
      unfold useN
      have h1 : ((List.range p.nds.length).map fun (j : Nat) => at_ p.nds (j : Int)) = p.nds := by
        refine List.ext_getElem (by simp) fun q h1 h2 => ?_
        simp only [List.getElem_map, List.getElem_range]
        exact at_nat h2
      conv => rhs; rw [← h1]
      exact List.Sublist.map _ List.filter_sublist
    exact hk.nd.sublist hsub
  · obtain ⟨h1, h2⟩ := sub_mem hc hd
    obtain ⟨e, he, hen⟩ := hk.ins d h1 x hx hn
    exact ⟨e, sub_used hc he (by rw [hen]; exact .inp h1 h2 hx hn) v, hen⟩
  · obtain ⟨e, he, hen⟩ := hk.drs d hd hn
    exact ⟨e, sub_used hc he (by rw [hen]; exact .drv hd hn) v, hen⟩
theorem sub_usn {p : Pg} (hc : checkP p = 0) (v : Value) {s : ByteArray} (h : UsN p.nds p.drs s) : UsN (sub p v).nds (sub p v).drs s := by
  induction h with
  | drv hd hn => exact .drv hd hn
  | inp hd hu hx hn ih => exact .inp (sub_used hc hd hu v) ih hx hn
theorem sub_idle {p : Pg} (hc : checkP p = 0) (v : Value) : idleP (feedsP (sub p v).nds true) (srcs (sub p v).nds (sub p v).drs) = [] := by
  have hc2 := sub_check hc v
  refine selP_nil (f := fun i => !(usedB (feedsP (sub p v).nds true) (srcs (sub p v).nds (sub p v).drs) i)) fun i hi => ?_
  rw [feeds_len] at hi
  have hm := sub_mem hc (at_mem (l := (sub p v).nds) hi)
  have := sub_usn hc v hm.2
  rw [← us_iff hc2 hi, ← usedB_iff (feeds_Rng hc2) (by rw [feeds_len]; exact hi)] at this
  rw [this]; rfl
end Go.Aw.S25
/-
  Chapter 25: a program without its idle nodes.
-/
namespace Go.Aw.S25
open Go.RowKit Go.Proofs Go.Aw.Tab
set_option linter.unusedSimpArgs false
set_option linter.unusedVariables false
set_option maxRecDepth 10000
set_option maxHeartbeats 1000000
set_option pp.deepTerms false
set_option pp.deepTerms.threshold 4
set_option pp.maxSteps 1500
attribute [local simp] Lk.cells Nd.cells Dr.cells Pg.val intC boolC
variable {w0 : World} {n : Nat} {H : Heap} {K : Value → Nat → Heap → Prop} {p : Pg} {D E : Nat → Prop}
/-- While the program is made. -/
structure SbI (w0 : World) (H0 H : Heap) (m n2 : Nat) (p : Pg) (v : Value) (E : Nat → Prop) (xs : List Nd) : Prop where
  bq : H m = .cells [.string p.nm, .int .i64 p.per, v, p.dv] 25 1
  ou : OwR ⟨Try.prog, w0⟩ H n2 E 47 4 Nd.cells v xs
  ne : ∀ i, E i → m + 1 ≤ i
  fr : ∀ i, i < m → H i = H0 i
  le : m + 1 ≤ n2
structure EW where
  j : Nat
  c : Nat
  v : Value
  E : Nat → Prop
theorem usedLaw_ok (hp : PrR H w0 D p) (hD : ∀ i, D i → i < n) (hk : ∀ n' H', n ≤ n' → (∀ i, i < n → H' i = H i) → K (.bool true) n' H') : ACall ⟨Try.prog, w0⟩ 10 [p.val] K n H := by
  refine ACall.run Try.func10 rfl Try.ntmps10 Try.results10 (by simp) fun J0 => ?_
  simp (disch := omega) [-hset_if, -Bool.decide_and, hset_ne]
  try rw [show (Value.agg #[.string p.nm, .int .i64 p.per, p.nv, p.dv]).cells.toList = [.string p.nm, .int .i64 p.per, p.nv, p.dv] from rfl]
  have hbx : hset n (.cells [.string p.nm, .int .i64 p.per, p.nv, p.dv] 25 1) H n = .cells [.string p.nm, .int .i64 p.per, p.nv, p.dv] 25 1 := hset_same _ _ _
  have hfr : ∀ i, i < n → hset n (.cells [.string p.nm, .int .i64 p.per, p.nv, p.dv] 25 1) H i = H i := fun i hi => hset_ne (by omega) _ _
  generalize hset n (.cells [.string p.nm, .int .i64 p.per, p.nv, p.dv] 25 1) H = H1 at *
  have hp1 : PrR H1 w0 D p := hp.frame (fun i hi => hfr i (hD i hi))
  have hnb := hp.nb
  have hD1 : ∀ i, D i → i < n + 1 := fun i hi => by have := hD i hi; omega
  refine awake_ok ?_
  simp (disch := omega) [-hset_if, -Bool.decide_and, hset_ne, hbx]
  refine Small_ok hp1 hD1 ?_
  cases hs : smallB p 12 with
  | false =>
    simp (disch := omega) [-hset_if, -Bool.decide_and, hset_ne, hs]
    refine Fin_id ?_
    exact hk _ _ (by omega) hfr
  | true =>
  have hib := small_ib hs
  have hsl := small_len hs
  simp (disch := omega) [-hset_if, -Bool.decide_and, hset_ne, hs, hbx]
  by_cases hc : checkP p = 0
  rotate_left
  · have hcb : (checkP p != 0) = true := by simpa using hc
    refine Idle_ok hp1 hD1 hib ?_ (fun h => absurd h hc)
    intro _ n2 H2 a1 a2
    simp (disch := omega) [-hset_if, -Bool.decide_and, hset_ne, hcb]
    refine Fin_id ?_
    exact hk _ _ (by omega) (fun i hi => by rw [a2 i (by omega), hfr i hi])
  refine Idle_ok hp1 hD1 hib (fun h => absurd hc h) ?_
  intro _ m H2 xv E2 a1 a2 a3 a4
  have hp2 := hp1.frame (H' := H2) (fun i hi => a2 i (hD1 i hi))
  have hbx2 : H2 n = .cells [.string p.nm, .int .i64 p.per, p.nv, p.dv] 25 1 := by rw [a2 n (by omega)]; exact hbx
  have hfr2 : ∀ i, i < n → H2 i = H i := fun i hi => by rw [a2 i (by omega), hfr i hi]
  have hl := check_len hc
  have hfl := feeds_len p.nds true
  have hsc := fun v => sub_check hc v
  have hsi := fun v => sub_idle hc v
  have hdc := hp.ds.cells
  have hdo := hp.ds.one
  have hnm : ∀ v, (sub p v).nds = useN (usedB (feedsP p.nds true) (srcs p.nds p.drs)) p.nds p.nds.length := fun _ => rfl
  have hidl : idleP (feedsP p.nds true) (srcs p.nds p.drs) = selP (fun i => !(usedB (feedsP p.nds true) (srcs p.nds p.drs) i)) p.nds.length := by rw [← hfl]; rfl
  rw [hidl] at a4
  generalize usedB (feedsP p.nds true) (srcs p.nds p.drs) = U at *
  simp (disch := omega) [-hset_if, -Bool.decide_and, hset_ne, hbx2, hdc, hdo]
  have hI : SbI w0 H2 (hset m (.cells [.string p.nm, .int .i64 p.per, .slice none 0 0, p.dv] 25 1) H2) m (m + 1) p (.slice none 0 0) (fun _ => False) (useN U p.nds 0) :=
    ⟨hset_same _ _ _, OwR.nil (by omega), fun _ h => h.elim, fun i hi => hset_ne (by omega) _ _, by omega⟩
  generalize hset m (.cells [.string p.nm, .int .i64 p.per, .slice none 0 0, p.dv] 25 1) H2 = H3 at *
  refine AW.while (σ := EW) (fun s => p.nds.length - s.j) (fun s => [(1, .pointer (some ⟨new n, 0, none⟩)), (3, xv), (5, .pointer (some ⟨new m, 0, none⟩)), (6, .int .i64 (s.c : Int)), (7, .int .i64 (s.j : Int))])
    (fun s n4 H4 => s.j ≤ p.nds.length ∧ s.c = (selP (fun i => !(U i)) s.j).length ∧ SbI w0 H2 H4 m n4 p s.v s.E (useN U p.nds s.j)) ⟨0, 0, .slice none 0 0, fun _ => False⟩ ?_ ?_ ?_
  · simp (disch := omega) [-hset_if, -Bool.decide_and, hset_ne]
  · exact ⟨by simp, by simp [selP], hI⟩
  clear hI
  rintro ⟨k, c, v, E4⟩ n4 H4 ⟨g1, g2, g3⟩
  dsimp only at g1 g2 g3 ⊢
  have hle := g3.le
  have hbq := g3.bq
  have hb4 : H4 n = .cells [.string p.nm, .int .i64 p.per, p.nv, p.dv] 25 1 := by rw [g3.fr n (by omega)]; exact hbx2
  have hp4 := hp2.frame (H' := H4) (fun i hi => g3.fr i (by have := hD i hi; omega))
  have x4 := a4.sl.frame (H' := H4) (fun i hi => g3.fr i (a4.lt i hi))
  have hsl2 := selP_len (fun i => !(U i)) k
  simp (disch := omega) [-hset_if, -Bool.decide_and, hset_ne, hb4, hp4.ns.lenK]
  refine cif_dec (fun e1 => ?_) (fun e1 => ?_)
  · have hnx := useN_next U p.nds k
    have hul := useN_len U p.nds k
    obtain ⟨d, hd⟩ : ∃ d, at_ p.nds (k : Int) = d := ⟨_, rfl⟩
    have hd1 : d ∈ p.nds := hd ▸ at_mem e1
    have ho1 := hp.po d hd1
    have ho2 := (hp.is d hd1).one
    have hsn := selP_next (fun i => !(U i)) k
    rw [hd] at hnx
    cases hU : U k with
    | false =>
      obtain ⟨h1, h2⟩ := selP_here (f := fun i => !(U i)) (m := p.nds.length) e1 (by simp [hU])
      rw [← g2] at h1 h2
      rw [hU, if_pos (by rfl)] at hsn
      rw [hU, if_neg (by simp), List.append_nil] at hnx
      have h3 : (at_ (selP (fun i => !(U i)) p.nds.length) (c : Int) == (k : Int)) = true := by rw [beq_iff_eq]; exact h2
      simp (disch := omega) [-hset_if, -Bool.decide_and, hset_ne, x4.lenK, h1, x4.ix elemS35, x4.load0 shp3, h3]
      exact Next.mk ⟨k + 1, c + 1, v, E4⟩ (by first | omega | (dsimp only; omega)) (by simp (disch := omega) [-hset_if, -Bool.decide_and, hset_ne]) ⟨(by first | omega | (dsimp only; omega)), by dsimp only; rw [hsn, List.length_append, g2]; rfl, by dsimp only; rw [hnx]; exact g3⟩
    | true =>
      rw [hU, if_neg (by simp), List.append_nil] at hsn
      rw [hU, if_pos rfl] at hnx
      have hpush : ∀ v5 n5 H5 E5, n4 + 1 ≤ n5 → (∀ i, i < n4 → ¬ E4 i → H5 i = H4 i) → (∀ i, E5 i → E4 i ∨ n4 < i) → OwR ⟨Try.prog, w0⟩ H5 n5 E5 47 4 Nd.cells v5 (useN U p.nds k ++ [d]) → SbI w0 H2 (hset m (.cells [.string p.nm, .int .i64 p.per, v5, p.dv] 25 1) H5) m n5 p v5 E5 (useN U p.nds (k + 1)) := fun v5 n5 H5 E5 q1 q3 q4 q5 => by
        have hE5 : ∀ i, E5 i → m + 1 ≤ i := fun i hi => by rcases q4 i hi with h | h; exact g3.ne i h; omega
        rw [hnx]
        exact ⟨hset_same _ _ _, q5.frame (Nat.le_refl _) (fun i hi => hset_ne (by have := hE5 i hi; omega) _ _), hE5, fun i hi => by rw [hset_ne (by omega), q3 i (by omega) (fun e => by have := g3.ne i e; omega), g3.fr i hi], by omega⟩
      have hq5 : ∀ (H5 : Heap), (∀ i, i < n4 → ¬ E4 i → H5 i = H4 i) → H5 m = .cells [.string p.nm, .int .i64 p.per, v, p.dv] 25 1 := fun H5 q3 => by rw [q3 m (by omega) (fun e => by have := g3.ne m e; omega)]; exact hbq
      by_cases h1 : c < (selP (fun i => !(U i)) p.nds.length).length
      · have h2 := selP_not (f := fun i => !(U i)) (m := p.nds.length) e1 (by simp [hU]) (by rw [← g2]; exact h1)
        rw [← g2] at h2
        have h3 : (at_ (selP (fun i => !(U i)) p.nds.length) (c : Int) == (k : Int)) = false := by rw [beq_eq_false_iff_ne]; exact h2
        simp (disch := omega) [-hset_if, -Bool.decide_and, hset_ne, x4.lenK, h1, x4.ix elemS35, x4.load0 shp3, h3]
        refine AW.draw (X := ⟨_, 83, _, _⟩) (id := 15) mixed (.take 0 <| .take 1 <| .take 2 <| .take 3 <| .take 4 <| .take 5 <| .take 6 <| .each 7 [0, 1] (.each 8 [] (.take 9 <| .each 10 [] (.done) <| .stop) <| .stop) <| .stop) (by kernel_rfl) ?_
        simp (disch := omega) [-hset_if, -Bool.decide_and, hset_ne, hbq, hb4, hp4.ns.ix elemS22, hp4.ns.load0 shp47, hd, ho1, ho2]
        refine g3.ou.push elemS22 zero47 (by simp) d rfl rfl (by simp [ho1, ho2]) (by first | omega | (dsimp only; omega)) (by first | omega | (dsimp only; omega)) ?_
        intro v5 n5 H5 E5 q1 q2 q3 q4 q5
        have hq := hq5 H5 q3
        simp (disch := omega) [-hset_if, -Bool.decide_and, hset_ne, hq, q5.sl.cells, q5.sl.one]
        exact Next.mk ⟨k + 1, c, v5, E5⟩ (by first | omega | (dsimp only; omega)) (by simp (disch := omega) [-hset_if, -Bool.decide_and, hset_ne]) ⟨(by first | omega | (dsimp only; omega)), by dsimp only; rw [hsn, g2], hpush _ _ _ _ q1 q3 q4 q5⟩
      · simp (disch := omega) [-hset_if, -Bool.decide_and, hset_ne, x4.lenK, h1]
        refine AW.draw (X := ⟨_, 83, _, _⟩) (id := 15) mixed (.take 0 <| .take 1 <| .take 2 <| .take 3 <| .take 4 <| .take 5 <| .take 6 <| .each 7 [0, 1] (.each 8 [] (.take 9 <| .each 10 [] (.done) <| .stop) <| .stop) <| .stop) (by kernel_rfl) ?_
        simp (disch := omega) [-hset_if, -Bool.decide_and, hset_ne, hbq, hb4, hp4.ns.ix elemS22, hp4.ns.load0 shp47, hd, ho1, ho2]
        refine g3.ou.push elemS22 zero47 (by simp) d rfl rfl (by simp [ho1, ho2]) (by first | omega | (dsimp only; omega)) (by first | omega | (dsimp only; omega)) ?_
        intro v5 n5 H5 E5 q1 q2 q3 q4 q5
        have hq := hq5 H5 q3
        simp (disch := omega) [-hset_if, -Bool.decide_and, hset_ne, hq, q5.sl.cells, q5.sl.one]
        exact Next.mk ⟨k + 1, c, v5, E5⟩ (by first | omega | (dsimp only; omega)) (by simp (disch := omega) [-hset_if, -Bool.decide_and, hset_ne]) ⟨(by first | omega | (dsimp only; omega)), by dsimp only; rw [hsn, g2], hpush _ _ _ _ q1 q3 q4 q5⟩
  · have hk0 : k = p.nds.length := by omega
    subst hk0
    have ho := g3.ou
    have hul := useN_len U p.nds p.nds.length
    have hus : ∀ d ∈ useN U p.nds p.nds.length, d ∈ p.nds := fun d hd => by
      obtain ⟨j, h1, h2, rfl⟩ := useN_mem.1 hd
      exact at_mem h1
    have hq : PrR H4 w0 (fun i => D i ∨ E4 i) (sub p v) := by
      refine ⟨?_, fun d hd => ?_, ?_, ?_, fun d hd => ?_, hp.db, fun d hd => ?_⟩
      · rw [hnm]; exact ho.sl.mono (fun i hi => .inr hi)
      · rw [hnm] at hd; exact (hp4.is d (hus d hd)).mono (fun i hi => .inl hi)
      · exact hp4.ds.mono (fun i hi => .inl hi)
      · rw [hnm]; omega
      · rw [hnm] at hd; exact hp.ib d (hus d hd)
      · rw [hnm] at hd; exact hp.po d (hus d hd)
    have hqD : ∀ i, D i ∨ E4 i → i < n4 := fun i hi => by
      rcases hi with h | h
      · have := hD i h; omega
      · exact ho.lt i h
    have hqib : ∀ d ∈ (sub p v).nds, d.lks.length ≤ 1000000 := fun d hd => by rw [hnm] at hd; exact hib d (hus d hd)
    have hqv : (sub p v).val = .agg #[.string p.nm, .int .i64 p.per, v, p.dv] := rfl
    have ho1 := ho.sl.one
    have hcq := hsc v
    have hiq := hsi v
    simp (disch := omega) [-hset_if, -Bool.decide_and, hset_ne, hbq, ho1, hdo]
    rw [← hqv]
    refine Idle_ok hq hqD hqib (fun h => absurd hcq h) ?_
    intro _ n5 H5 yv E5 b1 b2 b3 b4
    have hq5 := hq.frame (H' := H5) (fun i hi => b2 i (hqD i hi))
    have hbq5 : H5 m = .cells [.string p.nm, .int .i64 p.per, v, p.dv] 25 1 := by rw [b2 m (by omega)]; exact hbq
    have x5 := x4.frame (H' := H5) (fun i hi => by have := a4.lt i hi; exact b2 i (by omega))
    rw [hiq] at b4
    have hce : ((c : Int) == ((selP (fun i => !(U i)) p.nds.length).length : Int)) = true := by rw [beq_iff_eq, g2]
    have hce2 : (c == (selP (fun i => !(U i)) p.nds.length).length) = true := by rw [beq_iff_eq, g2]
    simp (disch := omega) [-hset_if, -Bool.decide_and, hset_ne, x5.lenK, hce, hce2, hbq5, ho1, hdo]
    rw [← hqv]
    refine OCheck_ok hq5 (fun i hi => by have := hqD i hi; omega) hqib ?_
    rw [hcq]
    simp (disch := omega) [-hset_if, -Bool.decide_and, hset_ne, b4.sl.lenK]
    refine Fin_id ?_
    exact hk _ _ (by omega) (fun i hi => by rw [b2 i (by omega), g3.fr i (by omega), hfr2 i hi])
end Go.Aw.S25
