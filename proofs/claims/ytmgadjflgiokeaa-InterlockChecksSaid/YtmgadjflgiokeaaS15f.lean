/-
  Chapter 15, the reference: the winner.
-/
import Derived.Test.YtmgadjflgiokeaaS15e
namespace Go.Aw.S15
open Go.RowKit Go.Proofs Go.Aw.Tab
set_option linter.unusedSimpArgs false
set_option linter.unusedVariables false
set_option maxRecDepth 10000
set_option maxHeartbeats 1000000
set_option pp.deepTerms false
set_option pp.deepTerms.threshold 4
set_option pp.maxSteps 1500
attribute [local simp] Req.cells
variable {w0 : World} {n : Nat} {H : Heap} {K : Value → Nat → Heap → Prop}
variable {pv av : Value} {D E : Nat → Prop} {nm : ByteArray} {ps : List ByteArray} {rs : List Req} {dead on left now a b : Int} {P : Int → Prop}
/-- P is the test of a level for the span a to b. -/
def Tests (P : Int → Prop) (rs : List Req) (a b : Int) : Prop := ∀ i, i < (rs.length : Int) → (P (levelR rs i) ↔ 0 ≤ i ∧ inB a b (at_ rs i) = true)
theorem tests_eq {l : Int} (h0 : 1 ≤ l) (h1 : l ≤ 18) : Tests (· = l) rs l l := fun i _ => by
  unfold levelR lvlOf inB
  by_cases h : i < 0
  · simp [h]; omega
  · cases hc : asksB (at_ rs i)
    · simp [h]; omega
    · simp [h]; omega
theorem tests_le (h : ∀ r ∈ rs, okLvl r = true) : Tests (· ≤ 17) rs 1 17 := fun i hi => by
  unfold levelR lvlOf inB
  by_cases h0 : i < 0
  · simp [h0]; omega
  · have := h (at_ rs i) (by obtain ⟨j, rfl⟩ := Int.eq_ofNat_of_zero_le (show 0 ≤ i by omega); rw [at_nat (by omega)]; exact List.getElem_mem _)
    simp [okLvl] at this
    cases hc : asksB (at_ rs i)
    · simp [h0]
    · simp [h0]; omega
theorem Tests.hit (hP : Tests P rs a b) (h1 : on < rs.length) (h : P (levelR rs on)) : first on rs a b = on ∧ 0 ≤ on := by
  have := (hP on h1).mp h
  exact ⟨if_pos this, this.1⟩
theorem Tests.found (hP : Tests P rs a b) (h1 : on < rs.length) (h : ¬ P (levelR rs on)) {j : Nat} (hj : j < rs.length) (hp : P (levelR rs (j : Int))) (hq : ∀ q : Nat, q < j → ¬ P (levelR rs (q : Int))) : first on rs a b = j := by
  rw [first, if_neg (fun hc => h ((hP on h1).mpr hc))]
  exact fidx_found hj ((hP j (by omega)).mp hp).2 (fun q hq' => by
    cases hx : inB a b (at_ rs (q : Int))
    · rfl
    · exact absurd ((hP q (by omega)).mpr ⟨by omega, hx⟩) (hq q hq'))
theorem Tests.none (hP : Tests P rs a b) (h1 : on < rs.length) (h : ¬ P (levelR rs on)) (hq : ∀ q : Nat, q < rs.length → ¬ P (levelR rs (q : Int))) : first on rs a b = -1 := by
  rw [first, if_neg (fun hc => h ((hP on h1).mpr hc))]
  exact fidx_none (fun q hq' => by
    cases hx : inB a b (at_ rs (q : Int))
    · rfl
    · exact absurd ((hP q (by omega)).mpr ⟨by omega, hx⟩) (hq q hq'))
theorem lev18 (h : levelR rs on = 18) : 0 ≤ on ∧ asksB (at_ rs on) = true := by
  unfold levelR lvlOf at h
  split at h
  · omega
  · split at h
    · rename_i h1 h2; exact ⟨by omega, h2⟩
    · omega
theorem lev18' (h1 : on < rs.length) (hL : ∀ r ∈ rs, okLvl r = true) (h : 0 ≤ on ∧ asksB (at_ rs on) = true) (h3 : ¬ levelR rs on ≤ 17) : levelR rs on = 18 := by
  have := hL (at_ rs on) (by obtain ⟨j, rfl⟩ := Int.eq_ofNat_of_zero_le h.1; rw [at_nat (by omega)]; exact List.getElem_mem _)
  simp [okLvl] at this
  have e : levelR rs on = (at_ rs on).lvl := by rw [levelR, if_neg (by omega), lvlOf, if_pos h.2]
  omega
theorem winnerR_ok (hs : SlR ⟨Try.prog, w0⟩ H D 3 Req.cells av rs) (h1 : on < rs.length) (hb : rs.length < 9223372036854775807) (hL : ∀ r ∈ rs, okLvl r = true) (hk : K (.int .i64 (win on rs)) n H) : ACall ⟨Try.prog, w0⟩ 38 [.int .i64 on, av] K n H := by
  refine ACall.run Try.func38 rfl Try.ntmps38 Try.results38 (by simp) fun J0 => ?_
  simp (disch := omega) [-hset_if, -Bool.decide_and, hset_ne]
  refine AW.rounds 3 ?_
  simp (disch := omega) [-hset_if, -Bool.decide_and, hset_ne]
  refine level_ok hs h1 ?_
  simp (disch := omega) [-hset_if, -Bool.decide_and, hset_ne]
  refine cif_beq (fun c1 => ?_) (fun c1 => ?_)
  · obtain ⟨f1, f2⟩ := Tests.hit (tests_eq (rs:=rs) (l:=1) (by omega) (by omega)) h1 c1
    simp (disch := omega) [-hset_if, -Bool.decide_and, hset_ne]
    refine Fin_id ?_
    rwa [show win on rs = on from by rw [win, if_pos (by omega), f1]] at hk
  simp (disch := omega) [-hset_if, -Bool.decide_and, hset_ne]
  refine AW.while (σ := Nat) (fun j => rs.length - j) (fun j => [(0, .int .i64 on), (1, av), (5, .int .i64 1), (6, .int .i64 j)]) (fun j n1 H1 => j ≤ rs.length ∧ n = n1 ∧ H = H1 ∧ ∀ q : Nat, q < j → ¬ (· = 1) (levelR rs (q : Int))) 0 ?_ ?_ ?_
  · simp (disch := omega) [-hset_if, -Bool.decide_and, hset_ne]
  · exact ⟨by omega, rfl, rfl, fun q hq => by omega⟩
  rintro j n1 H1 ⟨g1, rfl, rfl, g4⟩
  simp (disch := omega) [-hset_if, -Bool.decide_and, hset_ne, hs.lenK]
  refine cif_dec (fun hj => ?_) (fun hj => ?_)
  · simp (disch := omega) [-hset_if, -Bool.decide_and, hset_ne]
    refine level_ok hs (by omega) ?_
    simp (disch := omega) [-hset_if, -Bool.decide_and, hset_ne]
    refine cif_beq (fun hx => ?_) (fun hx => ?_)
    · have f1 := Tests.found (tests_eq (rs:=rs) (l:=1) (by omega) (by omega)) h1 c1 hj hx g4
      simp (disch := omega) [-hset_if, -Bool.decide_and, hset_ne]
      refine Fin_id ?_
      rwa [show win on rs = j from by rw [win, if_pos (by omega), f1]] at hk
    · simp (disch := omega) [-hset_if, -Bool.decide_and, hset_ne]
      refine Next.mk (j + 1) (by first | omega | (simp only; omega)) (by simp (disch := omega) [-hset_if, -Bool.decide_and, hset_ne]) ⟨by omega, rfl, rfl, fun q hq => ?_⟩
      by_cases e : q < j
      · first | exact g4 q e | exact Int.not_le.mp (g4 q e)
      · obtain rfl : q = j := by omega
        first | exact hx | exact Int.not_le.mp hx
  have f1 := Tests.none (tests_eq (rs:=rs) (l:=1) (by omega) (by omega)) h1 c1 (fun q hq => g4 q (by omega))
  simp (disch := omega) [-hset_if, -Bool.decide_and, hset_ne]
  refine level_ok hs h1 ?_
  simp (disch := omega) [-hset_if, -Bool.decide_and, hset_ne]
  refine cif_beq (fun c2 => ?_) (fun c2 => ?_)
  · obtain ⟨f1, f2⟩ := Tests.hit (tests_eq (rs:=rs) (l:=2) (by omega) (by omega)) h1 c2
    simp (disch := omega) [-hset_if, -Bool.decide_and, hset_ne]
    refine Fin_id ?_
    rwa [show win on rs = on from by rw [win, if_neg (by omega), if_pos (by omega), f1]] at hk
  simp (disch := omega) [-hset_if, -Bool.decide_and, hset_ne]
  refine AW.while (σ := Nat) (fun j => rs.length - j) (fun j => [(0, .int .i64 on), (1, av), (5, .int .i64 2), (6, .int .i64 j)]) (fun j n1 H1 => j ≤ rs.length ∧ n = n1 ∧ H = H1 ∧ ∀ q : Nat, q < j → ¬ (· = 2) (levelR rs (q : Int))) 0 ?_ ?_ ?_
  · simp (disch := omega) [-hset_if, -Bool.decide_and, hset_ne]
  · exact ⟨by omega, rfl, rfl, fun q hq => by omega⟩
  rintro j n1 H1 ⟨g1, rfl, rfl, g4⟩
  simp (disch := omega) [-hset_if, -Bool.decide_and, hset_ne, hs.lenK]
  refine cif_dec (fun hj => ?_) (fun hj => ?_)
  · simp (disch := omega) [-hset_if, -Bool.decide_and, hset_ne]
    refine level_ok hs (by omega) ?_
    simp (disch := omega) [-hset_if, -Bool.decide_and, hset_ne]
    refine cif_beq (fun hx => ?_) (fun hx => ?_)
    · have f1 := Tests.found (tests_eq (rs:=rs) (l:=2) (by omega) (by omega)) h1 c2 hj hx g4
      simp (disch := omega) [-hset_if, -Bool.decide_and, hset_ne]
      refine Fin_id ?_
      rwa [show win on rs = j from by rw [win, if_neg (by omega), if_pos (by omega), f1]] at hk
    · simp (disch := omega) [-hset_if, -Bool.decide_and, hset_ne]
      refine Next.mk (j + 1) (by first | omega | (simp only; omega)) (by simp (disch := omega) [-hset_if, -Bool.decide_and, hset_ne]) ⟨by omega, rfl, rfl, fun q hq => ?_⟩
      by_cases e : q < j
      · first | exact g4 q e | exact Int.not_le.mp (g4 q e)
      · obtain rfl : q = j := by omega
        first | exact hx | exact Int.not_le.mp hx
  have f2 := Tests.none (tests_eq (rs:=rs) (l:=2) (by omega) (by omega)) h1 c2 (fun q hq => g4 q (by omega))
  simp (disch := omega) [-hset_if, -Bool.decide_and, hset_ne]
  refine level_ok hs h1 ?_
  simp (disch := omega) [-hset_if, -Bool.decide_and, hset_ne]
  refine cif_dec (fun c3 => ?_) (fun c3 => ?_)
  · obtain ⟨f1, f2⟩ := Tests.hit (tests_le (rs:=rs) hL) h1 c3
    simp (disch := omega) [-hset_if, -Bool.decide_and, hset_ne]
    refine Fin_id ?_
    rwa [show win on rs = on from by rw [win, if_neg (by omega), if_neg (by omega), if_pos (by omega), f1]] at hk
  simp (disch := omega) [-hset_if, -Bool.decide_and, hset_ne]
  refine AW.while (σ := Nat) (fun j => rs.length - j) (fun j => [(0, .int .i64 on), (1, av), (7, .int .i64 j)]) (fun j n1 H1 => j ≤ rs.length ∧ n = n1 ∧ H = H1 ∧ ∀ q : Nat, q < j → ¬ (· ≤ 17) (levelR rs (q : Int))) 0 ?_ ?_ ?_
  · simp (disch := omega) [-hset_if, -Bool.decide_and, hset_ne]
  · exact ⟨by omega, rfl, rfl, fun q hq => by omega⟩
  rintro j n1 H1 ⟨g1, rfl, rfl, g4⟩
  simp (disch := omega) [-hset_if, -Bool.decide_and, hset_ne, hs.lenK]
  refine cif_dec (fun hj => ?_) (fun hj => ?_)
  · simp (disch := omega) [-hset_if, -Bool.decide_and, hset_ne]
    refine level_ok hs (by omega) ?_
    simp (disch := omega) [-hset_if, -Bool.decide_and, hset_ne]
    refine cif_dec (fun hx => ?_) (fun hx => ?_)
    · have f1 := Tests.found (tests_le (rs:=rs) hL) h1 c3 hj hx g4
      simp (disch := omega) [-hset_if, -Bool.decide_and, hset_ne]
      refine Fin_id ?_
      rwa [show win on rs = j from by rw [win, if_neg (by omega), if_neg (by omega), if_pos (by omega), f1]] at hk
    · simp (disch := omega) [-hset_if, -Bool.decide_and, hset_ne]
      refine Next.mk (j + 1) (by first | omega | (simp only; omega)) (by simp (disch := omega) [-hset_if, -Bool.decide_and, hset_ne]) ⟨by omega, rfl, rfl, fun q hq => ?_⟩
      by_cases e : q < j
      · first | exact g4 q e | exact Int.not_le.mp (g4 q e)
      · obtain rfl : q = j := by omega
        first | exact hx | exact Int.not_le.mp hx
  have f3 := Tests.none (tests_le (rs:=rs) hL) h1 c3 (fun q hq => g4 q (by omega))
  simp (disch := omega) [-hset_if, -Bool.decide_and, hset_ne]
  refine level_ok hs h1 ?_
  simp (disch := omega) [-hset_if, -Bool.decide_and, hset_ne]
  refine cif_beq (fun c4 => ?_) (fun c4 => ?_)
  · simp (disch := omega) [-hset_if, -Bool.decide_and, hset_ne]
    refine Fin_id ?_
    rwa [show win on rs = on from by rw [win, if_neg (by omega), if_neg (by omega), if_neg (by omega)]; exact if_pos (lev18 c4)] at hk
  · simp (disch := omega) [-hset_if, -Bool.decide_and, hset_ne]
    refine Fin_id ?_
    rwa [show win on rs = -1 from by rw [win, if_neg (by omega), if_neg (by omega), if_neg (by omega)]; exact if_neg (fun hc => c4 (lev18' h1 hL hc c3))] at hk
end Go.Aw.S15
