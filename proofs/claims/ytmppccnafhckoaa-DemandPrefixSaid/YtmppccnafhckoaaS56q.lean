/-
  Chapter 56: the statement DemandLeast.
-/
import Derived.Test.YtmppccnafhckoaaS56n
namespace Go.Aw.S56
open Go.RowKit Go.Proofs Go.Aw.Tab
set_option linter.unusedSimpArgs false
set_option linter.unusedVariables false
set_option maxRecDepth 10000
set_option maxHeartbeats 1000000
set_option pp.deepTerms false
set_option pp.deepTerms.threshold 4
set_option pp.maxSteps 1500
attribute [local simp] Load.cells Sta.cells intC Num.cells range_get
variable {w0 : World} {n : Nat} {H : Heap} {K : Value → Nat → Heap → Prop} {pv sv ov : Value} {D E F : Nat → Prop} {l : List Load} {s : List Sta} {base limit now : Int}
theorem shP_spec : ∀ (o : List Int) (m : Nat), m ≤ (shP l base limit m o).1 ∧ (shP l base limit m o).1 ≤ m + o.length ∧ (shP l base limit m o).2 = base + sumO l (o.drop ((shP l base limit m o).1 - m)) ∧ (∀ q, q < (shP l base limit m o).1 - m → limit < base + sumO l (o.drop q)) ∧ (¬ (shP l base limit m o).2 ≤ limit → (shP l base limit m o).1 = m + o.length)
  | [], m => by simp [shP, sumO]
  | k :: r, m => by
    by_cases h : base + sumO l (k :: r) ≤ limit
    · rw [shP, if_pos h]
      refine ⟨Nat.le_refl _, by simp, by simp, fun q hq => by simp at hq, fun e => absurd h e⟩
    · rw [shP, if_neg h]
      obtain ⟨h1, h2, h3, h4, h5⟩ := shP_spec r (m + 1)
      generalize shP l base limit (m + 1) r = p at *
      refine ⟨by omega, by simp only [List.length_cons]; omega, ?_, fun q hq => ?_, fun e => ?_⟩
      · rw [h3, show p.1 - m = (p.1 - (m + 1)) + 1 by omega, List.drop_succ_cons]
      · cases q with
        | zero => simpa using h
        | succ q => rw [List.drop_succ_cons]; exact h4 q (by omega)
      · rw [h5 e, List.length_cons]; omega
theorem leastLaw_ok (hs : SlR ⟨Try.prog, w0⟩ H D 5 Load.cells pv l) (hD : ∀ i, D i → i < n) (hr : Res n H K (.bool true)) : ACall ⟨Try.prog, w0⟩ 6 [pv, .int .i64 base, .int .i64 limit] K n H := by
  have hU : ∀ i, i < n → H i = H i := fun _ _ => rfl
  refine ACall.run Try.func6 rfl Try.ntmps6 Try.results6 (by simp) fun J0 => ?_
  simp (disch := omega) [-hset_if, -Bool.decide_and, hset_ne, hs.lenK]
  refine cif_dec (fun h => ?_) (fun h => ?_)
  · simp (disch := omega) [-hset_if, -Bool.decide_and, hset_ne]
    refine awake_ok ?_
    simp (disch := omega) [-hset_if, -Bool.decide_and, hset_ne]
    exact hr.fin rfl (by omega) hU
  clear hU
  have hb : l.length < 4611686018427387904 := by omega
  simp (disch := omega) [-hset_if, -Bool.decide_and, hset_ne]
  refine Order_ok hb hs hD ?_ ?_
  · intro h0
    have hV : shV l base limit = (0, 0, chk l) := by unfold shV; rw [if_pos h0]
    have hb1 : (chk l != 0) = true := by simpa using h0
    have hU : ∀ i, i < n → H i = H i := fun _ _ => rfl
    simp (disch := omega) [-hset_if, -Bool.decide_and, hset_ne]
    refine Shed_ok hb hs hD ?_
    rw [hV]
    simp (disch := omega) [-hset_if, -Bool.decide_and, hset_ne, hb1]
    refine awake_ok ?_
    simp (disch := omega) [-hset_if, -Bool.decide_and, hset_ne]
    exact hr.fin rfl (by omega) hU
  intro h0 v n1 H1 E p1 p2 p3 p4
  have hs1 : SlR ⟨Try.prog, w0⟩ H1 D 5 Load.cells pv l := hs.frame (fun i hi => p2 i (hD i hi))
  have hD1 : ∀ i, D i → i < n1 := fun i hi => by have := hD i hi; omega
  have hl := chk_len h0
  have hU : ∀ i, i < n → H1 i = H i := p2
  cases g1 : [base, limit].all inB
  · have hV : shV l base limit = (0, 0, 6) := by unfold shV; rw [if_neg (by simp [h0]), if_pos g1]
    simp (disch := omega) [-hset_if, -Bool.decide_and, hset_ne]
    refine Shed_ok hb hs1 hD1 ?_
    rw [hV]
    simp (disch := omega) [-hset_if, -Bool.decide_and, hset_ne]
    refine awake_ok ?_
    simp (disch := omega) [-hset_if, -Bool.decide_and, hset_ne]
    exact hr.fin rfl (by omega) hU
  have hol : (ordR l).length = l.length := ordR_len
  have gb : inB base = true ∧ inB limit = true := by simpa using g1
  have hbs := inB_iff.1 gb.1
  obtain ⟨hb3, hb4⟩ := hbs
  have hR := chk_rng h0
  have hb2 := sumO_b (o := ordR l) hR hl (fun k hk => ordR_mem.1 hk) (by rw [ordR_len]; exact hl)
  obtain ⟨q1, q2, q3, q4, q5⟩ := shP_spec (l := l) (base := base) (limit := limit) (ordR l) 0
  by_cases g3 : (shP l base limit 0 (ordR l)).2 ≤ limit
  · have hV : shV l base limit = (((shP l base limit 0 (ordR l)).1 : Int), (shP l base limit 0 (ordR l)).2, 0) := by unfold shV; rw [if_neg (by simp [h0]), if_neg (by rw [g1]; simp), if_pos g3]
    simp (disch := omega) [-hset_if, -Bool.decide_and, hset_ne]
    refine Shed_ok hb hs1 hD1 ?_
    rw [hV]
    clear hV
    generalize (shP l base limit 0 (ordR l)).2 = z at *
    generalize (shP l base limit 0 (ordR l)).1 = m at *
    rw [Nat.sub_zero] at q3 q4
    simp (disch := omega) [-hset_if, -Bool.decide_and, hset_ne]
    refine AW.while (σ := Nat) (fun j => (ordR l).length - j) (fun j => [(0, pv), (1, .int .i64 base), (2, .int .i64 limit), (7, v), (9, .int .i64 (m : Int)), (10, .int .i64 z), (11, .int .i64 0), (12, .int .i64 (if j ≤ m then base else base + (sumO l ((ordR l).drop m) - sumO l ((ordR l).drop j)))), (13, .int .i64 (j : Int))])
      (fun j n2 H2 => n2 = n1 ∧ H2 = H1 ∧ j ≤ (ordR l).length) 0 ?_ ?_ ?_
    · simp (disch := omega) [-hset_if, -Bool.decide_and, hset_ne]
    · exact ⟨rfl, rfl, by omega⟩
    rintro j n2 H2 ⟨rfl, rfl, f1⟩
    have hbm := hb2 m
    have hbj := hb2 j
    simp (disch := omega) [-hset_if, -Bool.decide_and, hset_ne, p4.sl.lenK]
    refine cif_dec (fun h1 => ?_) (fun h1 => ?_)
    · have hst := sumO_drop (l := l) (o := ordR l) (j := j) (by omega)
      have hbk := hb2 (j + 1)
      have hki := ordR_mem.1 (at_mem (l := ordR l) (j := j) (by omega))
      have hld := at_rngI hR hki
      have hk1 := hki.1
      have hk2 := hki.2
      simp (disch := omega) [-hset_if, -Bool.decide_and, hset_ne]
      refine cif_dec (fun h2 => ?_) (fun h2 => ?_)
      · have e : (if j ≤ m then base else base + (sumO l ((ordR l).drop m) - sumO l ((ordR l).drop j))) = base + (sumO l ((ordR l).drop m) - sumO l ((ordR l).drop j)) := by
          split
          · rw [show m = j by omega]; omega
          · rfl
        rw [e]
        simp (disch := omega) [-hset_if, -Bool.decide_and, hset_ne, p4.sl.ix elemS24, p4.sl.load0 shp3, hs1.ix elemS22, hs1.load shp2, hs1.load0 shp2, hk1, hk2]
        exact Next.mk (j + 1) (by first | omega | (dsimp only; omega)) (by rw [if_neg (by omega), show base + (sumO l ((ordR l).drop m) - sumO l ((ordR l).drop (j + 1))) = base + (sumO l ((ordR l).drop m) - sumO l ((ordR l).drop j)) + (at_ l (at_ (ordR l) (j : Int))).pw by omega]; simp (disch := omega) [-hset_if, -Bool.decide_and, hset_ne]) ⟨rfl, rfl, by omega⟩
      · rw [if_pos (by omega)]
        simp (disch := omega) [-hset_if, -Bool.decide_and, hset_ne]
        exact Next.mk (j + 1) (by first | omega | (dsimp only; omega)) (by rw [if_pos (by omega)]; simp (disch := omega) [-hset_if, -Bool.decide_and, hset_ne]) ⟨rfl, rfl, by omega⟩
    · have e : (if j ≤ m then base else base + (sumO l ((ordR l).drop m) - sumO l ((ordR l).drop j))) = z := by
        have e0 : sumO l ((ordR l).drop j) = 0 := by rw [List.drop_of_length_le (by omega)]; rfl
        split
        · rw [q3, show m = j by omega, e0]; omega
        · rw [q3, e0]; omega
      rw [e]
      simp (disch := omega) [-hset_if, -Bool.decide_and, hset_ne, p4.sl.lenK]
      refine gif_dec (fun z1 => ?_) (fun z1 => ?_)
      · exfalso; omega
      simp (disch := omega) [-hset_if, -Bool.decide_and, hset_ne, p4.sl.lenK]
      refine gif_dec (fun z2 => ?_) (fun z2 => ?_)
      · exfalso; omega
      simp (disch := omega) [-hset_if, -Bool.decide_and, hset_ne]
      refine cif_dec (fun z3 => ?_) (fun z3 => ?_)
      · exfalso; omega
      simp (disch := omega) [-hset_if, -Bool.decide_and, hset_ne]
      refine awake_ok ?_
      simp (disch := omega) [-hset_if, -Bool.decide_and, hset_ne]
      rcases Nat.eq_zero_or_pos m with rfl | hm
      · simp (disch := omega) [-hset_if, -Bool.decide_and, hset_ne]
        exact hr.fin rfl (by omega) hU
      · obtain ⟨m', rfl⟩ : ∃ m', m = m' + 1 := ⟨m - 1, by omega⟩
        have hst := sumO_drop (l := l) (o := ordR l) (j := m') (by omega)
        have hbk := hb2 m'
        have hki := ordR_mem.1 (at_mem (l := ordR l) (j := m') (by omega))
        have hld := at_rngI hR hki
        have hk1 := hki.1
        have hk2 := hki.2
        have hq4 := q4 m' (by omega)
        have hm0 : (((m' : Int) + 1) == 0) = false := by simp; omega
        have hsub : ((m' + 1 : Nat) : Int) - 1 = (m' : Int) := by omega
        simp (disch := omega) [-hset_if, -Bool.decide_and, hset_ne, hm0, p4.sl.ix elemS24, p4.sl.load0 shp3, hs1.ix elemS22, hs1.load shp2, hs1.load0 shp2, hk1, hk2]
        exact hr.fin (by congr 1; exact (decide_eq_true (by omega)).symm) (by omega) hU
  · have hV : shV l base limit = (0, 0, 9) := by unfold shV; rw [if_neg (by simp [h0]), if_neg (by rw [g1]; simp), if_neg g3]
    have hgt : limit < base := by
      have e0 : sumO l ((ordR l).drop ((shP l base limit 0 (ordR l)).1 - 0)) = 0 := by rw [q5 g3, List.drop_of_length_le (by omega)]; rfl
      rw [e0] at q3
      omega
    simp (disch := omega) [-hset_if, -Bool.decide_and, hset_ne]
    refine Shed_ok hb hs1 hD1 ?_
    rw [hV]
    simp (disch := omega) [-hset_if, -Bool.decide_and, hset_ne]
    refine AW.while (σ := Nat) (fun j => (ordR l).length - j) (fun j => [(0, pv), (1, .int .i64 base), (2, .int .i64 limit), (7, v), (9, .int .i64 0), (10, .int .i64 0), (11, .int .i64 9), (12, .int .i64 base), (13, .int .i64 (j : Int))])
      (fun j n2 H2 => n2 = n1 ∧ H2 = H1 ∧ j ≤ (ordR l).length) 0 ?_ ?_ ?_
    · simp (disch := omega) [-hset_if, -Bool.decide_and, hset_ne]
    · exact ⟨rfl, rfl, by omega⟩
    rintro j n2 H2 ⟨rfl, rfl, f1⟩
    simp (disch := omega) [-hset_if, -Bool.decide_and, hset_ne, p4.sl.lenK]
    refine cif_dec (fun h1 => ?_) (fun h1 => ?_)
    · simp (disch := omega) [-hset_if, -Bool.decide_and, hset_ne]
      exact Next.mk (j + 1) (by first | omega | (dsimp only; omega)) (by simp (disch := omega) [-hset_if, -Bool.decide_and, hset_ne]) ⟨rfl, rfl, by omega⟩
    · simp (disch := omega) [-hset_if, -Bool.decide_and, hset_ne]
      refine awake_ok ?_
      simp (disch := omega) [-hset_if, -Bool.decide_and, hset_ne]
      exact hr.fin (by simp; omega) (by omega) hU
end Go.Aw.S56
