/-
  Chapter 56: the statements DemandOrders, DemandForecasts, DemandSheds.
-/
import Derived.Test.YtmppccnafhckoaaS56n
namespace Go.Aw.S56
open Go.RowKit Go.Proofs Go.Aw.Tab
set_option linter.unusedSimpArgs false
set_option linter.unusedVariables false
set_option maxRecDepth 10000
set_option maxHeartbeats 1000000
set_option pp.deepTerms false
set_option pp.deepTerms.threshold 4
set_option pp.maxSteps 1500
attribute [local simp] Load.cells Sta.cells intC Num.cells range_get
variable {w0 : World} {n : Nat} {H : Heap} {K : Value → Nat → Heap → Prop} {pv sv ov : Value} {D E F : Nat → Prop} {l : List Load} {s : List Sta} {base limit now : Int}
theorem ordersLaw_ok (hs : SlR ⟨Try.prog, w0⟩ H D 5 Load.cells pv l) (hD : ∀ i, D i → i < n) (hr : Res n H K (.bool true)) : ACall ⟨Try.prog, w0⟩ 3 [pv] K n H := by
  refine ACall.run Try.func3 rfl Try.ntmps3 Try.results3 (by simp) fun J0 => ?_
  simp (disch := omega) [-hset_if, -Bool.decide_and, hset_ne, hs.lenK]
  refine cif_dec (fun h => ?_) (fun h => ?_)
  · simp (disch := omega) [-hset_if, -Bool.decide_and, hset_ne]
    refine awake_ok ?_
    simp (disch := omega) [-hset_if, -Bool.decide_and, hset_ne]
    exact hr.fin rfl (by omega) (fun i hi => by simp (disch := omega) only [hset_ne])
  have hb : l.length < 4611686018427387904 := by omega
  simp (disch := omega) [-hset_if, -Bool.decide_and, hset_ne]
  refine Order_ok hb hs hD ?_ ?_
  · intro h0
    simp (disch := omega) [-hset_if, -Bool.decide_and, hset_ne]
    refine checkR_ok hs hD hb ?_
    simp (disch := omega) [-hset_if, -Bool.decide_and, hset_ne]
    refine check_ok hs hD hb ?_
    simp (disch := omega) [-hset_if, -Bool.decide_and, hset_ne]
    refine cif_bne (fun h1 => ?_) (fun h1 => ?_)
    · exact absurd h1 h0
    simp (disch := omega) [-hset_if, -Bool.decide_and, hset_ne]
    refine awake_ok ?_
    simp (disch := omega) [-hset_if, -Bool.decide_and, hset_ne]
    exact hr.fin rfl (by omega) (fun i hi => by simp (disch := omega) only [hset_ne])
  · intro h0 v n1 H1 E p1 p2 p3 p4
    have hs1 : SlR ⟨Try.prog, w0⟩ H1 D 5 Load.cells pv l := hs.frame (fun i hi => p2 i (hD i hi))
    have hD1 : ∀ i, D i → i < n1 := fun i hi => by have := hD i hi; omega
    have hl := chk_len h0
    simp (disch := omega) [-hset_if, -Bool.decide_and, hset_ne]
    refine checkR_ok hs1 hD1 hb ?_
    rw [h0]
    simp (disch := omega) [-hset_if, -Bool.decide_and, hset_ne]
    refine check_ok hs1 hD1 hb ?_
    rw [h0]
    simp (disch := omega) [-hset_if, -Bool.decide_and, hset_ne]
    refine awake_ok ?_
    simp (disch := omega) [-hset_if, -Bool.decide_and, hset_ne]
    refine orderR_ok hl hs1 hD1 ?_
    intro v2 n2 H2 E2 a1 a2 a3 a4
    simp (disch := omega) [-hset_if, -Bool.decide_and, hset_ne]
    refine sameInts_ok (p4.sl.frame (fun i hi => a2 i (p4.lt i hi))) a4.sl (by rw [ordR_len]; omega) ?_
    simp (disch := omega) [-hset_if, -Bool.decide_and, hset_ne]
    exact hr.fin (by simp) (by omega) (fun i hi => by rw [a2 i (by omega), p2 i hi])
theorem forecastsLaw_ok {used power more elapsed interval : Int} (hr : Res n H K (.bool true)) : ACall ⟨Try.prog, w0⟩ 4 [.int .i64 used, .int .i64 power, .int .i64 more, .int .i64 elapsed, .int .i64 interval] K n H := by
  have hm : ∀ p m, p ≤ m → (fcV used p elapsed interval).2 = 0 → (fcV used m elapsed interval).2 = 0 → (fcV used p elapsed interval).1 ≤ (fcV used m elapsed interval).1 := fun p m h => by
    unfold fcV
    split
    · rename_i h1
      split
      · rename_i h2
        intro _ _
        refine fcR_mono ?_ h1.1.1
        have := Int.mul_le_mul_of_nonneg_right h (show 0 ≤ interval - elapsed by have := h1.2.1; omega)
        omega
      · intro _ h; cases h
    · intro h; cases h
  refine ACall.run Try.func4 rfl Try.ntmps4 Try.results4 (by simp) fun J0 => ?_
  simp (disch := omega) [-hset_if, -Bool.decide_and, hset_ne]
  refine cif_dec (fun h => ?_) (fun h => ?_)
  · simp (disch := omega) [-hset_if, -Bool.decide_and, hset_ne]
    refine Forecast_ok ?_
    simp (disch := omega) [-hset_if, -Bool.decide_and, hset_ne]
    refine ForecastR_ok ?_
    simp (disch := omega) [-hset_if, -Bool.decide_and, hset_ne]
    refine Forecast_ok ?_
    have h1 := hm more power (by omega)
    generalize fcV used more elapsed interval = p at h1 ⊢
    generalize fcV used power elapsed interval = q at h1 ⊢
    simp (disch := omega) [-hset_if, -Bool.decide_and, hset_ne]
    refine awake_ok ?_
    simp (disch := omega) [-hset_if, -Bool.decide_and, hset_ne]
    refine gif_bne (fun a1 => ?_) (fun a1 => ?_)
    · simp (disch := omega) [-hset_if, -Bool.decide_and, hset_ne]
      refine gif_bne (fun a2 => ?_) (fun a2 => ?_)
      · simp (disch := omega) [-hset_if, -Bool.decide_and, hset_ne]
        exact hr.fin (by rw [decide_eq_true (h1 a1 a2)]) (by omega) (fun i hi => by simp (disch := omega) only [hset_ne])
      · simp (disch := omega) [-hset_if, -Bool.decide_and, hset_ne]
        exact hr.fin rfl (by omega) (fun i hi => by simp (disch := omega) only [hset_ne])
    · simp (disch := omega) [-hset_if, -Bool.decide_and, hset_ne]
      exact hr.fin rfl (by omega) (fun i hi => by simp (disch := omega) only [hset_ne])
  · simp (disch := omega) [-hset_if, -Bool.decide_and, hset_ne]
    refine Forecast_ok ?_
    simp (disch := omega) [-hset_if, -Bool.decide_and, hset_ne]
    refine ForecastR_ok ?_
    simp (disch := omega) [-hset_if, -Bool.decide_and, hset_ne]
    refine Forecast_ok ?_
    have h1 := hm power more (by omega)
    generalize fcV used power elapsed interval = p at h1 ⊢
    generalize fcV used more elapsed interval = q at h1 ⊢
    simp (disch := omega) [-hset_if, -Bool.decide_and, hset_ne]
    refine awake_ok ?_
    simp (disch := omega) [-hset_if, -Bool.decide_and, hset_ne]
    refine gif_bne (fun a1 => ?_) (fun a1 => ?_)
    · simp (disch := omega) [-hset_if, -Bool.decide_and, hset_ne]
      refine gif_bne (fun a2 => ?_) (fun a2 => ?_)
      · simp (disch := omega) [-hset_if, -Bool.decide_and, hset_ne]
        exact hr.fin (by rw [decide_eq_true (h1 a1 a2)]) (by omega) (fun i hi => by simp (disch := omega) only [hset_ne])
      · simp (disch := omega) [-hset_if, -Bool.decide_and, hset_ne]
        exact hr.fin rfl (by omega) (fun i hi => by simp (disch := omega) only [hset_ne])
    · simp (disch := omega) [-hset_if, -Bool.decide_and, hset_ne]
      exact hr.fin rfl (by omega) (fun i hi => by simp (disch := omega) only [hset_ne])
theorem shedsLaw_ok {m : Int} (hs : SlR ⟨Try.prog, w0⟩ H D 5 Load.cells pv l) (hD : ∀ i, D i → i < n) (hr : Res n H K (.bool true)) : ACall ⟨Try.prog, w0⟩ 5 [pv, .int .i64 base, .int .i64 limit, .int .i64 m] K n H := by
  refine ACall.run Try.func5 rfl Try.ntmps5 Try.results5 (by simp) fun J0 => ?_
  simp (disch := omega) [-hset_if, -Bool.decide_and, hset_ne, hs.lenK]
  refine cif_dec (fun h => ?_) (fun h => ?_)
  · simp (disch := omega) [-hset_if, -Bool.decide_and, hset_ne]
    refine awake_ok ?_
    simp (disch := omega) [-hset_if, -Bool.decide_and, hset_ne]
    exact hr.fin rfl (by omega) (fun i hi => by simp (disch := omega) only [hset_ne])
  have hb : l.length < 4611686018427387904 := by omega
  by_cases h0 : chk l = 0
  rotate_left
  · have hV : shV l base limit = (0, 0, chk l) := by unfold shV; rw [if_pos h0]
    have hb0 : (chk l == 0) = false := by simpa using h0
    have hb1 : (chk l != 0) = true := by simpa using h0
    simp (disch := omega) [-hset_if, -Bool.decide_and, hset_ne]
    refine Shed_ok hb hs hD ?_
    rw [hV]
    simp (disch := omega) [-hset_if, -Bool.decide_and, hset_ne]
    refine checkR_ok hs hD hb ?_
    simp (disch := omega) [-hset_if, -Bool.decide_and, hset_ne, hb0]
    refine proves_ok hb hs hD ?_
    simp (disch := omega) [-hset_if, -Bool.decide_and, hset_ne]
    refine provesR_ok hb hs hD ?_
    simp (disch := omega) [-hset_if, -Bool.decide_and, hset_ne, hb1]
    refine awake_ok ?_
    simp (disch := omega) [-hset_if, -Bool.decide_and, hset_ne]
    exact hr.fin rfl (by omega) (fun i hi => by simp (disch := omega) only [hset_ne])
  cases g1 : inB base
  · have hV : shV l base limit = (0, 0, 6) := by unfold shV; rw [if_neg (by simp [h0]), if_pos (by simp [g1])]
    simp (disch := omega) [-hset_if, -Bool.decide_and, hset_ne]
    refine Shed_ok hb hs hD ?_
    rw [hV]
    simp (disch := omega) [-hset_if, -Bool.decide_and, hset_ne]
    refine checkR_ok hs hD hb ?_
    rw [h0]
    simp (disch := omega) [-hset_if, -Bool.decide_and, hset_ne]
    refine inside_ok ?_
    rw [g1]
    simp (disch := omega) [-hset_if, -Bool.decide_and, hset_ne]
    refine proves_ok hb hs hD ?_
    simp (disch := omega) [-hset_if, -Bool.decide_and, hset_ne]
    refine provesR_ok hb hs hD ?_
    simp (disch := omega) [-hset_if, -Bool.decide_and, hset_ne]
    refine awake_ok ?_
    simp (disch := omega) [-hset_if, -Bool.decide_and, hset_ne]
    exact hr.fin rfl (by omega) (fun i hi => by simp (disch := omega) only [hset_ne])
  cases g2 : inB limit
  · have hV : shV l base limit = (0, 0, 6) := by unfold shV; rw [if_neg (by simp [h0]), if_pos (by simp [g1, g2])]
    simp (disch := omega) [-hset_if, -Bool.decide_and, hset_ne]
    refine Shed_ok hb hs hD ?_
    rw [hV]
    simp (disch := omega) [-hset_if, -Bool.decide_and, hset_ne]
    refine checkR_ok hs hD hb ?_
    rw [h0]
    simp (disch := omega) [-hset_if, -Bool.decide_and, hset_ne]
    refine inside_ok ?_
    rw [g1]
    simp (disch := omega) [-hset_if, -Bool.decide_and, hset_ne]
    refine inside_ok ?_
    rw [g2]
    simp (disch := omega) [-hset_if, -Bool.decide_and, hset_ne]
    refine proves_ok hb hs hD ?_
    simp (disch := omega) [-hset_if, -Bool.decide_and, hset_ne]
    refine provesR_ok hb hs hD ?_
    simp (disch := omega) [-hset_if, -Bool.decide_and, hset_ne]
    refine awake_ok ?_
    simp (disch := omega) [-hset_if, -Bool.decide_and, hset_ne]
    exact hr.fin rfl (by omega) (fun i hi => by simp (disch := omega) only [hset_ne])
  by_cases g3 : (shP l base limit 0 (ordR l)).2 ≤ limit
  · have hV : shV l base limit = (((shP l base limit 0 (ordR l)).1 : Int), (shP l base limit 0 (ordR l)).2, 0) := by unfold shV; rw [if_neg (by simp [h0]), if_neg (by simp [g1, g2]), if_pos g3]
    have hP : prv l base limit ((shP l base limit 0 (ordR l)).1 : Int) = true := by unfold prv; rw [hV]; simp
    simp (disch := omega) [-hset_if, -Bool.decide_and, hset_ne]
    refine Shed_ok hb hs hD ?_
    rw [hV]
    simp (disch := omega) [-hset_if, -Bool.decide_and, hset_ne]
    refine checkR_ok hs hD hb ?_
    rw [h0]
    simp (disch := omega) [-hset_if, -Bool.decide_and, hset_ne]
    refine inside_ok ?_
    rw [g1]
    simp (disch := omega) [-hset_if, -Bool.decide_and, hset_ne]
    refine inside_ok ?_
    rw [g2]
    simp (disch := omega) [-hset_if, -Bool.decide_and, hset_ne]
    refine proves_ok hb hs hD ?_
    simp (disch := omega) [-hset_if, -Bool.decide_and, hset_ne]
    refine provesR_ok hb hs hD ?_
    simp (disch := omega) [-hset_if, -Bool.decide_and, hset_ne]
    refine shedR_ok h0 hs hD (inB_iff.1 g1) ?_
    rw [shQ, if_pos g3]
    simp (disch := omega) [-hset_if, -Bool.decide_and, hset_ne]
    refine cif_dec (fun hz => ?_) (fun hz => ?_)
    · exfalso; omega
    simp (disch := omega) [-hset_if, -Bool.decide_and, hset_ne]
    refine awake_ok ?_
    simp (disch := omega) [-hset_if, -Bool.decide_and, hset_ne]
    refine proves_ok hb hs hD ?_
    rw [hP]
    simp (disch := omega) [-hset_if, -Bool.decide_and, hset_ne]
    exact hr.fin rfl (by omega) (fun i hi => by simp (disch := omega) only [hset_ne])
  · have hV : shV l base limit = (0, 0, 9) := by unfold shV; rw [if_neg (by simp [h0]), if_neg (by simp [g1, g2]), if_neg g3]
    simp (disch := omega) [-hset_if, -Bool.decide_and, hset_ne]
    refine Shed_ok hb hs hD ?_
    rw [hV]
    simp (disch := omega) [-hset_if, -Bool.decide_and, hset_ne]
    refine checkR_ok hs hD hb ?_
    rw [h0]
    simp (disch := omega) [-hset_if, -Bool.decide_and, hset_ne]
    refine inside_ok ?_
    rw [g1]
    simp (disch := omega) [-hset_if, -Bool.decide_and, hset_ne]
    refine inside_ok ?_
    rw [g2]
    simp (disch := omega) [-hset_if, -Bool.decide_and, hset_ne]
    refine proves_ok hb hs hD ?_
    simp (disch := omega) [-hset_if, -Bool.decide_and, hset_ne]
    refine provesR_ok hb hs hD ?_
    simp (disch := omega) [-hset_if, -Bool.decide_and, hset_ne]
    refine shedR_ok h0 hs hD (inB_iff.1 g1) ?_
    rw [shQ, if_neg g3]
    simp (disch := omega) [-hset_if, -Bool.decide_and, hset_ne]
    refine awake_ok ?_
    simp (disch := omega) [-hset_if, -Bool.decide_and, hset_ne]
    exact hr.fin rfl (by omega) (fun i hi => by simp (disch := omega) only [hset_ne])
end Go.Aw.S56
