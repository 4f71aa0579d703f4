/-
  Chapter 15: where a point stands in the groups.
-/
import Derived.Test.YtmgadjflgiokeaaS15cf
namespace Go.Aw.S15
open Go.RowKit Go.Proofs Go.Aw.Tab
set_option linter.unusedSimpArgs false
set_option linter.unusedVariables false
set_option maxRecDepth 10000
set_option maxHeartbeats 1000000
set_option pp.deepTerms false
set_option pp.deepTerms.threshold 4
set_option pp.maxSteps 1500
attribute [local simp] Gr.cells Pt.cells strC
variable {w0 : World} {n : Nat} {H : Heap} {K : Value → Nat → Heap → Prop} {D E : Nat → Prop} {gs : List Gr} {pts : List Pt} {s : ByteArray}
def posS (s : ByteArray) (l : List ByteArray) : Int := fidx (fun x => decide (x = s)) l
def posG (s : ByteArray) (g : Gr) : Bool := decide (0 ≤ posS s g.ps)
theorem posG_mem {g : Gr} : posG s g = true ↔ s ∈ g.ps := by
  unfold posG posS
  rw [fidx_any, List.any_eq_true]
  simp
theorem posG_no {g : Gr} : posG s g = false ↔ s ∉ g.ps := by
  rw [← posG_mem (s := s), Bool.not_eq_true]
def findG (gs : List Gr) (s : ByteArray) : Int × Int × Int :=
  if fidx (posG s) gs < 0 then (0, 0, 9) else (fidx (posG s) gs, posS s (at_ gs (fidx (posG s) gs)).ps, 0)
theorem findG_at {q : Nat} {k : Int} (hq : q < gs.length) (hk : posS s (at_ gs (q : Int)).ps = k) (h0 : 0 ≤ k) (h : ∀ p : Nat, p < q → posG s (at_ gs (p : Int)) = false) : findG gs s = ((q : Int), k, 0) := by
  have e : fidx (posG s) gs = (q : Int) := fidx_found hq (by unfold posG; rw [hk]; simpa using h0) h
  unfold findG
  rw [e, hk, if_neg (by omega)]
theorem findG_hit {q k : Nat} (hq : q < gs.length) (hk : k < (at_ gs (q : Int)).ps.length) (he : at_ (at_ gs (q : Int)).ps (k : Int) = s) (hk' : ∀ p : Nat, p < k → at_ (at_ gs (q : Int)).ps (p : Int) ≠ s) (h : ∀ p : Nat, p < q → posG s (at_ gs (p : Int)) = false) : findG gs s = ((q : Int), (k : Int), 0) :=
  findG_at hq (fidx_found hk (by simpa using he) (fun p hp => by simpa using hk' p hp)) (by omega) h
theorem findG_no (h : ∀ p : Nat, p < gs.length → posG s (at_ gs (p : Int)) = false) : findG gs s = (0, 0, 9) := by
  unfold findG
  rw [fidx_none h, if_pos (by omega)]
theorem Find_ok {gv : Value} (hs : GrsR H w0 D gv gs) (hD : ∀ i, D i → i < n) (hk : ∀ n' H', n ≤ n' → (∀ i, i < n → H' i = H i) → K (.tuple #[.int .i64 (findG gs s).1, .int .i64 (findG gs s).2.1, .int .i64 (findG gs s).2.2]) n' H') : ACall ⟨Try.prog, w0⟩ 30 [gv, .string s] K n H := by
  have hlb := hs.lb
  refine ACall.run Try.func30 rfl Try.ntmps30 Try.results30 (by simp) fun J0 => ?_
  simp (disch := omega) [-hset_if, -Bool.decide_and, hset_ne, hs.sl.lenK]
  refine AW.while (σ := Nat) (fun j => gs.length - j) (fun j => [(0, gv), (1, .string s), (10, gv), (11, .int .i64 gs.length), (12, .int .i64 j)]) (fun j n1 H1 => j ≤ gs.length ∧ n ≤ n1 ∧ (∀ i, i < n → H1 i = H i) ∧ ∀ q : Nat, q < j → posG s (at_ gs (q : Int)) = false) 0 ?_ ?_ ?_
  · simp (disch := omega) [-hset_if, -Bool.decide_and, hset_ne]
  · exact ⟨by omega, by omega, fun _ _ => rfl, fun q hq => by omega⟩
  rintro j n1 H1 ⟨g1, g2, g3, g4⟩
  have hs1 := hs.frame (fun i hi => g3 i (hD i hi))
  simp (disch := omega) [-hset_if, -Bool.decide_and, hset_ne]
  refine cif_dec (fun h => ?_) (fun h => ?_)
  · obtain ⟨r, hr⟩ : ∃ r, at_ gs (j : Int) = r := ⟨_, rfl⟩
    have hr1 : r ∈ gs := hr ▸ at_mem h
    have ho := (hs.ps r hr1).one
    have hrp := hs.pb r hr1
    have hpo : posS s r.ps = fidx (fun x => decide (x = s)) r.ps := rfl
    simp (disch := omega) [-hset_if, -Bool.decide_and, hset_ne, hs1.sl.ix elemS72, hs1.sl.load0 shp24, hr, ho]
    have hb2 : hset n1 (.cells [.string r.nm, r.pv, .int .i64 r.dd] 24 1) H1 n1 = .cells [.string r.nm, r.pv, .int .i64 r.dd] 24 1 := hset_same _ _ _
    have hf2 : ∀ i, i < n1 → hset n1 (.cells [.string r.nm, r.pv, .int .i64 r.dd] 24 1) H1 i = H1 i := fun i hi => hset_ne (by omega) _ _
    generalize hset n1 (.cells [.string r.nm, r.pv, .int .i64 r.dd] 24 1) H1 = H2 at *
    have hs2 := hs1.frame (H' := H2) (fun i hi => hf2 i (by have := hD i hi; omega))
    simp (disch := omega) [-hset_if, -Bool.decide_and, hset_ne, hb2]
    refine indexS_ok (hs2.ps r hr1) (by omega) ?_
    rw [← hpo]
    obtain ⟨p, hp⟩ : ∃ p, posS s r.ps = p := ⟨_, rfl⟩
    rw [hp]
    by_cases h1 : 0 ≤ p
    · have e := findG_at (gs := gs) (s := s) (q := j) (k := p) h (by rw [hr]; exact hp) h1 g4
      simp (disch := omega) [-hset_if, -Bool.decide_and, hset_ne, h1]
      refine Fin_id ?_
      have h2 := hk (n1 + 1) H2 (by omega) (fun i hi => by rw [hf2 i (by omega), g3 i hi])
      rw [e] at h2
      exact h2
    · simp (disch := omega) [-hset_if, -Bool.decide_and, hset_ne, h1]
      refine Next.mk (j + 1) (by first | omega | (dsimp only; omega)) (by simp (disch := omega) [-hset_if, -Bool.decide_and, hset_ne]) ⟨by omega, by omega, fun i hi => by rw [hf2 i (by omega), g3 i hi], fun q hq => ?_⟩
      by_cases e : q < j
      · exact g4 q e
      · obtain rfl : q = j := by omega
        unfold posG
        rw [hr, hp]
        simpa using h1
  · simp (disch := omega) [-hset_if, -Bool.decide_and, hset_ne]
    refine Fin_id ?_
    have h2 := hk n1 H1 g2 g3
    rw [findG_no (fun p hp => g4 p (by omega))] at h2
    exact h2
theorem RFind_ok {gv : Value} (hs : GrsR H w0 D gv gs) (hk : K (.tuple #[.int .i64 (findG gs s).1, .int .i64 (findG gs s).2.1, .int .i64 (findG gs s).2.2]) n H) : ACall ⟨Try.prog, w0⟩ 31 [gv, .string s] K n H := by
  have hlb := hs.lb
  refine ACall.run Try.func31 rfl Try.ntmps31 Try.results31 (by simp) fun J0 => ?_
  simp (disch := omega) [-hset_if, -Bool.decide_and, hset_ne]
  refine AW.while (σ := Nat) (fun j => gs.length - j) (fun j => [(0, gv), (1, .string s), (7, .int .i64 j)]) (fun j n1 H1 => j ≤ gs.length ∧ n = n1 ∧ H = H1 ∧ ∀ q : Nat, q < j → posG s (at_ gs (q : Int)) = false) 0 ?_ ?_ ?_
  · simp (disch := omega) [-hset_if, -Bool.decide_and, hset_ne]
  · exact ⟨by omega, rfl, rfl, fun q hq => by omega⟩
  rintro j n1 H1 ⟨g1, rfl, rfl, g4⟩
  simp (disch := omega) [-hset_if, -Bool.decide_and, hset_ne, hs.sl.lenK]
  refine cif_dec (fun h => ?_) (fun h => ?_)
  · obtain ⟨r, hr⟩ : ∃ r, at_ gs (j : Int) = r := ⟨_, rfl⟩
    have hr1 : r ∈ gs := hr ▸ at_mem h
    have hrp := hs.pb r hr1
    have hR := hs.ps r hr1
    simp (disch := omega) [-hset_if, -Bool.decide_and, hset_ne]
    refine AW.while (σ := Nat) (fun k => r.ps.length - k) (fun k => [(0, gv), (1, .string s), (7, .int .i64 j), (8, .int .i64 k)]) (fun k n1 H1 => k ≤ r.ps.length ∧ n = n1 ∧ H = H1 ∧ ∀ q : Nat, q < k → at_ r.ps (q : Int) ≠ s) 0 ?_ ?_ ?_
    · simp (disch := omega) [-hset_if, -Bool.decide_and, hset_ne]
    · exact ⟨by omega, rfl, rfl, fun q hq => by omega⟩
    rintro k n1 H1 ⟨k1, rfl, rfl, k4⟩
    simp (disch := omega) [-hset_if, -Bool.decide_and, hset_ne, hs.sl.ix elemS72, hs.sl.load shp22, hr, hR.lenK]
    refine cif_dec (fun h1 => ?_) (fun h1 => ?_)
    · simp (disch := omega) [-hset_if, -Bool.decide_and, hset_ne, hs.sl.ix elemS72, hs.sl.load shp22, hr, hR.ix elemS22, hR.load0 shp9]
      refine cif_dec (fun h2 => ?_) (fun h2 => ?_)
      · have e := findG_hit (gs := gs) (s := s) (q := j) (k := k) h (by rw [hr]; exact h1) (by rw [hr]; exact h2) (by rw [hr]; exact k4) g4
        rw [e] at hk
        simp (disch := omega) [-hset_if, -Bool.decide_and, hset_ne]
        refine Fin_id ?_
        exact hk
      · simp (disch := omega) [-hset_if, -Bool.decide_and, hset_ne]
        refine Next.mk (k + 1) (by first | omega | (dsimp only; omega)) (by simp (disch := omega) [-hset_if, -Bool.decide_and, hset_ne]) ⟨by omega, rfl, rfl, fun q hq => ?_⟩
        by_cases e : q < k
        · exact k4 q e
        · obtain rfl : q = k := by omega
          exact h2
    · simp (disch := omega) [-hset_if, -Bool.decide_and, hset_ne]
      refine Next.mk (j + 1) (by first | omega | (dsimp only; omega)) (by simp (disch := omega) [-hset_if, -Bool.decide_and, hset_ne]) ⟨by omega, rfl, rfl, fun q hq => ?_⟩
      by_cases e : q < j
      · exact g4 q e
      · obtain rfl : q = j := by omega
        rw [hr, posG_no]
        intro hm
        obtain ⟨q, hq, e⟩ := mem_at hm
        exact k4 q (by omega) e
  · rw [findG_no (fun p hp => g4 p (by omega))] at hk
    simp (disch := omega) [-hset_if, -Bool.decide_and, hset_ne]
    refine Fin_id ?_
    exact hk
theorem point_ok {pv : Value} (hp : PtsR H w0 D pv pts) (hk : K (.int .i64 (findPt pts s)) n H) : ACall ⟨Try.prog, w0⟩ 67 [pv, .string s] K n H := by
  have hlb := hp.lb
  refine ACall.run Try.func67 rfl Try.ntmps67 Try.results67 (by simp) fun J0 => ?_
  simp (disch := omega) [-hset_if, -Bool.decide_and, hset_ne]
  refine AW.while (σ := Nat) (fun j => pts.length - j) (fun j => [(0, pv), (1, .string s), (5, .int .i64 j)]) (fun j n1 H1 => j ≤ pts.length ∧ n = n1 ∧ H = H1 ∧ ∀ q : Nat, q < j → decide ((at_ pts (q : Int)).nm = s) = false) 0 ?_ ?_ ?_
  · simp (disch := omega) [-hset_if, -Bool.decide_and, hset_ne]
  · exact ⟨by omega, rfl, rfl, fun q hq => by omega⟩
  rintro j n1 H1 ⟨g1, rfl, rfl, g4⟩
  simp (disch := omega) [-hset_if, -Bool.decide_and, hset_ne, hp.sl.lenK]
  refine cif_dec (fun h => ?_) (fun h => ?_)
  · obtain ⟨r, hr⟩ : ∃ r, at_ pts (j : Int) = r := ⟨_, rfl⟩
    simp (disch := omega) [-hset_if, -Bool.decide_and, hset_ne, hp.sl.ix elemS71, hp.sl.load shp9, hr]
    refine cif_dec (fun h1 => ?_) (fun h1 => ?_)
    · have e : findPt pts s = (j : Int) := fidx_found (p := fun p : Pt => decide (p.nm = s)) h (by rw [hr]; simpa using h1) g4
      rw [e] at hk
      simp (disch := omega) [-hset_if, -Bool.decide_and, hset_ne]
      refine Fin_id ?_
      exact hk
    · simp (disch := omega) [-hset_if, -Bool.decide_and, hset_ne]
      refine Next.mk (j + 1) (by first | omega | (dsimp only; omega)) (by simp (disch := omega) [-hset_if, -Bool.decide_and, hset_ne]) ⟨by omega, rfl, rfl, fun q hq => ?_⟩
      by_cases e : q < j
      · simpa using g4 q e
      · obtain rfl : q = j := by omega
        rw [hr]
        simpa using h1
  · have e : findPt pts s = -1 := fidx_none (p := fun p : Pt => decide (p.nm = s)) (fun q hq => g4 q (by omega))
    rw [e] at hk
    simp (disch := omega) [-hset_if, -Bool.decide_and, hset_ne]
    refine Fin_id ?_
    exact hk
def smallB (gs : List Gr) : Bool := decide (gs.length ≤ 20) && gs.all fun g => decide (g.ps.length ≤ 20)
theorem Small_ok {gv : Value} (hs : SlR ⟨Try.prog, w0⟩ H D 3 Gr.cells gv gs) (hps : ∀ g ∈ gs, SlR ⟨Try.prog, w0⟩ H D 1 strC g.pv g.ps) (hlb : gs.length ≤ 9223372036854775807) (hk : K (.bool (smallB gs)) n H) : ACall ⟨Try.prog, w0⟩ 29 [gv] K n H := by
  refine ACall.run Try.func29 rfl Try.ntmps29 Try.results29 (by simp) fun J0 => ?_
  simp (disch := omega) [-hset_if, -Bool.decide_and, hset_ne, hs.lenK]
  by_cases d0 : 20 < gs.length
  · have d1 : (20 : Int) < (gs.length : Int) := by omega
    rw [show smallB gs = false from by unfold smallB; rw [decide_eq_false (by omega)]; rfl] at hk
    simp (disch := omega) [-hset_if, -Bool.decide_and, hset_ne, d0, d1]
    refine Fin_id ?_
    exact hk
  have d1 : ¬ (20 : Int) < (gs.length : Int) := by omega
  simp (disch := omega) [-hset_if, -Bool.decide_and, hset_ne, d0, d1]
  refine AW.while (σ := Nat) (fun j => gs.length - j) (fun j => [(0, gv), (3, .int .i64 j)]) (fun j n1 H1 => j ≤ gs.length ∧ n = n1 ∧ H = H1 ∧ ∀ q : Nat, q < j → (at_ gs (q : Int)).ps.length ≤ 20) 0 ?_ ?_ ?_
  · simp (disch := omega) [-hset_if, -Bool.decide_and, hset_ne]
  · exact ⟨by omega, rfl, rfl, fun q hq => by omega⟩
  rintro j n1 H1 ⟨g1, rfl, rfl, g4⟩
  simp (disch := omega) [-hset_if, -Bool.decide_and, hset_ne, hs.lenK]
  refine cif_dec (fun h => ?_) (fun h => ?_)
  · obtain ⟨r, hr⟩ : ∃ r, at_ gs (j : Int) = r := ⟨_, rfl⟩
    have hr1 : r ∈ gs := hr ▸ at_mem h
    have hR := hps r hr1
    simp (disch := omega) [-hset_if, -Bool.decide_and, hset_ne, hs.ix elemS72, hs.load shp22, hr, hR.lenK]
    by_cases h1 : 20 < r.ps.length
    · have h2 : (20 : Int) < (r.ps.length : Int) := by omega
      rw [show smallB gs = false from by
        unfold smallB
        rw [Bool.and_eq_false_iff]
        exact .inr (List.all_eq_false.2 ⟨r, hr1, by simp; omega⟩)] at hk
      simp (disch := omega) [-hset_if, -Bool.decide_and, hset_ne, h1, h2]
      refine Fin_id ?_
      exact hk
    · have h2 : ¬ (20 : Int) < (r.ps.length : Int) := by omega
      simp (disch := omega) [-hset_if, -Bool.decide_and, hset_ne, h1, h2]
      refine Next.mk (j + 1) (by first | omega | (dsimp only; omega)) (by simp (disch := omega) [-hset_if, -Bool.decide_and, hset_ne]) ⟨by omega, rfl, rfl, fun q hq => ?_⟩
      by_cases e : q < j
      · exact g4 q e
      · obtain rfl : q = j := by omega
        rw [hr]; omega
  · rw [show smallB gs = true from by
      unfold smallB
      rw [Bool.and_eq_true, decide_eq_true_eq, List.all_eq_true]
      exact ⟨by omega, fun g hg => by
        obtain ⟨q, hq, rfl⟩ := mem_at hg
        exact decide_eq_true (g4 q (by omega))⟩] at hk
    simp (disch := omega) [-hset_if, -Bool.decide_and, hset_ne]
    refine Fin_id ?_
    exact hk
end Go.Aw.S15
