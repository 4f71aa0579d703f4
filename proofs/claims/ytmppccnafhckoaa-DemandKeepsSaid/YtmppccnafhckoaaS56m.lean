/-
  Chapter 56: Forecast.
-/
import Derived.Test.YtmppccnafhckoaaS56l
namespace Go.Aw.S56
open Go.RowKit Go.Proofs Go.Aw.Tab
set_option linter.unusedSimpArgs false
set_option linter.unusedVariables false
set_option maxRecDepth 10000
set_option maxHeartbeats 1000000
set_option pp.deepTerms false
set_option pp.deepTerms.threshold 4
set_option pp.maxSteps 1500
variable {w0 : World} {n : Nat} {H : Heap} {K : Value → Nat → Heap → Prop}
def okF (used power elapsed interval : Int) : Prop := (1 ≤ interval ∧ interval ≤ 86400) ∧ (0 ≤ elapsed ∧ elapsed ≤ interval) ∧ (-1000000000000 ≤ power ∧ power ≤ 1000000000000) ∧ (-1000000000000 * elapsed ≤ used ∧ used ≤ 1000000000000 * elapsed)
instance {a b c d : Int} : Decidable (okF a b c d) := by unfold okF; infer_instance
/-- m / k, rounded, halves up. -/
def rnd0 (m k : Int) : Int := (2 * m + k) / (2 * k)
/-- The quotient, halves away from zero. -/
def fcR (m k : Int) : Int := if m < 0 then -(rnd0 (-m) k) else rnd0 m k
def fcV (used power elapsed interval : Int) : Int × Int := if okF used power elapsed interval then (fcR (used + power * (interval - elapsed)) interval, 0) else (0, 1)
theorem rnd0_eq {m k : Int} (hk : 1 ≤ k) : rnd0 m k = m / k + (if k ≤ 2 * (m % k) then 1 else 0) := by
  have h1 := Int.emod_add_mul_ediv m k
  have h2 := Int.emod_nonneg m (show k ≠ 0 by omega)
  have h3 := Int.emod_lt_of_pos m (show 0 < k by omega)
  generalize m / k = q at *
  generalize m % k = r at *
  have e : 2 * m + k = (2 * r + k) + q * (2 * k) := by
    rw [← h1, Int.mul_add, Int.mul_comm k q, Int.mul_left_comm q 2 k]; omega
  unfold rnd0
  rw [e, Int.add_mul_ediv_right _ _ (show 2 * k ≠ 0 by omega)]
  split
  · rw [show 2 * r + k = (2 * r - k) + 1 * (2 * k) by omega, Int.add_mul_ediv_right _ _ (show 2 * k ≠ 0 by omega), Int.ediv_eq_zero_of_lt (by omega) (by omega)]; omega
  · rw [Int.ediv_eq_zero_of_lt (by omega) (by omega)]; omega
theorem rnd0_nonneg {m k : Int} (hm : 0 ≤ m) (hk : 1 ≤ k) : 0 ≤ rnd0 m k := Int.ediv_nonneg (by omega) (by omega)
theorem rnd0_mono {m m' k : Int} (h : m ≤ m') (hk : 1 ≤ k) : rnd0 m k ≤ rnd0 m' k := Int.ediv_le_ediv (by omega) (by omega)
theorem fcR_mono {m m' k : Int} (h : m ≤ m') (hk : 1 ≤ k) : fcR m k ≤ fcR m' k := by
  unfold fcR
  split
  · have h1 := rnd0_nonneg (m := -m) (k := k) (by omega) hk
    split
    · have := rnd0_mono (m := -m') (m' := -m) (k := k) (by omega) hk
      omega
    · have := rnd0_nonneg (m := m') (k := k) (by omega) hk
      omega
  · split
    · omega
    · exact rnd0_mono h hk
theorem sum_bound {used power elapsed interval : Int} (h : okF used power elapsed interval) : -1000000000000 * 86400 ≤ used + power * (interval - elapsed) ∧ used + power * (interval - elapsed) ≤ 1000000000000 * 86400 ∧ -1000000000000 * 86400 ≤ power * (interval - elapsed) ∧ power * (interval - elapsed) ≤ 1000000000000 * 86400 := by
  obtain ⟨⟨h1, h2⟩, ⟨h3, h4⟩, ⟨h5, h6⟩, h7, h8⟩ := h
  have a1 := Int.mul_le_mul_of_nonneg_right h6 (show 0 ≤ interval - elapsed by omega)
  have a2 := Int.mul_le_mul_of_nonneg_right h5 (show 0 ≤ interval - elapsed by omega)
  omega
theorem div_b {m k : Int} (hk : 1 ≤ k) (h1 : -1000000000000 * 86400 ≤ m) (h2 : m ≤ 1000000000000 * 86400) : -1000000000000 * 86400 ≤ m.tdiv k ∧ m.tdiv k ≤ 1000000000000 * 86400 ∧ -86400000000000000 ≤ m.tmod k ∧ m.tmod k ≤ 86400000000000000 := by
  by_cases hm : 0 ≤ m
  · rw [Int.tdiv_eq_ediv_of_nonneg hm, Int.tmod_eq_emod_of_nonneg hm]
    have a1 := Int.ediv_nonneg hm (show 0 ≤ k by omega)
    have a2 := Int.ediv_le_self k hm
    have a3 := Int.emod_nonneg m (show k ≠ 0 by omega)
    have a4 := Int.emod_add_mul_ediv m k
    have a5 := Int.mul_nonneg (show 0 ≤ k by omega) a1
    omega
  · obtain ⟨x, rfl⟩ : ∃ x, m = -x := ⟨-m, by omega⟩
    rw [Int.neg_tdiv, Int.neg_tmod, Int.tdiv_eq_ediv_of_nonneg (show 0 ≤ x by omega), Int.tmod_eq_emod_of_nonneg (show 0 ≤ x by omega)]
    have a1 := Int.ediv_nonneg (show 0 ≤ x by omega) (show 0 ≤ k by omega)
    have a2 := Int.ediv_le_self k (show 0 ≤ x by omega)
    have a3 := Int.emod_nonneg x (show k ≠ 0 by omega)
    have a4 := Int.emod_add_mul_ediv x k
    have a5 := Int.mul_nonneg (show 0 ≤ k by omega) a1
    omega
theorem fin_div {m k : Int} (hk : 1 ≤ k) : fcR m k = if k ≤ 2 * m.tmod k then m.tdiv k + 1 else if k ≤ -2 * m.tmod k then m.tdiv k - 1 else m.tdiv k := by
  unfold fcR
  by_cases hm : 0 ≤ m
  · rw [if_neg (by omega), rnd0_eq hk, Int.tdiv_eq_ediv_of_nonneg hm, Int.tmod_eq_emod_of_nonneg hm]
    have a3 := Int.emod_nonneg m (show k ≠ 0 by omega)
    split
    · rfl
    · rw [if_neg (by omega)]; omega
  · obtain ⟨x, rfl⟩ : ∃ x, m = -x := ⟨-m, by omega⟩
    rw [if_pos (by omega), Int.neg_neg, rnd0_eq hk, Int.neg_tdiv, Int.neg_tmod, Int.tdiv_eq_ediv_of_nonneg (show 0 ≤ x by omega), Int.tmod_eq_emod_of_nonneg (show 0 ≤ x by omega)]
    have a3 := Int.emod_nonneg x (show k ≠ 0 by omega)
    rw [if_neg (show ¬ k ≤ 2 * -(x % k) by omega)]
    by_cases h : k ≤ 2 * (x % k)
    · rw [if_pos h, if_pos (by omega)]; omega
    · rw [if_neg h, if_neg (by omega)]; omega
theorem Forecast_ok {used power elapsed interval : Int} (hk : K (.tuple #[.int .i64 (fcV used power elapsed interval).1, .int .i64 (fcV used power elapsed interval).2]) n H) : ACall ⟨Try.prog, w0⟩ 16 [.int .i64 used, .int .i64 power, .int .i64 elapsed, .int .i64 interval] K n H := by
  refine ACall.res (fun K' hr => ?_) (und_tuple (by simp)) hk
  unfold fcV at hr
  refine ACall.run Try.func16 rfl Try.ntmps16 Try.results16 (by simp) fun J0 => ?_
  simp (disch := omega) [-hset_if, -Bool.decide_and, hset_ne]
  refine btw_ok ?_
  simp (disch := omega) [-hset_if, -Bool.decide_and, hset_ne]
  refine gif_ndec (fun h1 => ?_) (fun h1 => ?_)
  · rw [if_neg (fun h => h1 h.1)] at hr
    simp (disch := omega) [-hset_if, -Bool.decide_and, hset_ne]
    exact hr.fin rfl (by omega) (fun i hi => by simp (disch := omega) only [hset_ne])
  simp (disch := omega) [-hset_if, -Bool.decide_and, hset_ne]
  refine btw_ok ?_
  simp (disch := omega) [-hset_if, -Bool.decide_and, hset_ne]
  refine gif_ndec (fun h2 => ?_) (fun h2 => ?_)
  · rw [if_neg (fun h => h2 h.2.1)] at hr
    simp (disch := omega) [-hset_if, -Bool.decide_and, hset_ne]
    exact hr.fin rfl (by omega) (fun i hi => by simp (disch := omega) only [hset_ne])
  simp (disch := omega) [-hset_if, -Bool.decide_and, hset_ne]
  refine btw64_ok ?_
  simp (disch := omega) [-hset_if, -Bool.decide_and, hset_ne]
  refine gif_ndec (fun h3 => ?_) (fun h3 => ?_)
  · rw [if_neg (fun h => h3 h.2.2.1)] at hr
    simp (disch := omega) [-hset_if, -Bool.decide_and, hset_ne]
    exact hr.fin rfl (by omega) (fun i hi => by simp (disch := omega) only [hset_ne])
  simp (disch := omega) [-hset_if, -Bool.decide_and, hset_ne]
  refine btw64_ok ?_
  simp (disch := omega) [-hset_if, -Bool.decide_and, hset_ne]
  refine cif_dec (fun h4 => ?_) (fun h4 => ?_)
  rotate_left
  · rw [if_neg (fun h => h4 h.2.2.2)] at hr
    simp (disch := omega) [-hset_if, -Bool.decide_and, hset_ne]
    exact hr.fin rfl (by omega) (fun i hi => by simp (disch := omega) only [hset_ne])
  have hok : okF used power elapsed interval := ⟨h1, h2, h3, h4⟩
  rw [if_pos hok] at hr
  obtain ⟨b1, b2, b3, b4⟩ := sum_bound hok
  obtain ⟨hi1, hi2⟩ := h1
  simp (disch := omega) [-hset_if, -Bool.decide_and, hset_ne]
  generalize used + power * (interval - elapsed) = m at *
  have hd := fin_div (m := m) (k := interval) hi1
  obtain ⟨d1, d2, d3, d4⟩ := div_b (m := m) (k := interval) hi1 b1 b2
  refine AW.draw (X := ⟨_, 64, _, _⟩) (id := 4) mixed (.take 0 <| .take 1 <| .take 2 <| .take 3 <| .take 4 <| .take 5 <| .take 6 <| .take 7 <| .done) (by kernel_rfl) ?_
  simp (disch := omega) [-hset_if, -Bool.decide_and, hset_ne]
  generalize m.tdiv interval = q at *
  generalize m.tmod interval = r at *
  repeat' (first | (with_reducible intro _; first | (exfalso; omega) | (simp (disch := omega) [-hset_if, -Bool.decide_and, hset_ne]) | skip) | (with_reducible refine And.intro ?_ ?_; omega) | with_reducible apply cif_dec | with_reducible apply cif_beq | with_reducible apply cif_bne | with_reducible apply cif_var | with_reducible apply gif_dec | with_reducible apply gif_ndec | with_reducible apply gif_beq | with_reducible apply gif_bne | with_reducible apply gif_nbeq | with_reducible apply gif_var)
  all_goals (
    refine hr.fin ?_ (by omega) (fun i hi => by simp (disch := omega) only [hset_ne])
    rw [hd]
    (repeat' split) <;> first | rfl | (exfalso; omega) | omega)
theorem ForecastR_ok {used power elapsed interval : Int} (hk : K (.tuple #[.int .i64 (fcV used power elapsed interval).1, .int .i64 (fcV used power elapsed interval).2]) n H) : ACall ⟨Try.prog, w0⟩ 17 [.int .i64 used, .int .i64 power, .int .i64 elapsed, .int .i64 interval] K n H := by
  refine ACall.res (fun K' hr => ?_) (und_tuple (by simp)) hk
  unfold fcV at hr
  refine ACall.run Try.func17 rfl Try.ntmps17 Try.results17 (by simp) fun J0 => ?_
  simp (disch := omega) [-hset_if, -Bool.decide_and, hset_ne]
  refine gif_dec (fun a1 => ?_) (fun a1 => ?_)
  · rw [if_neg (fun h => by have := h.1; omega)] at hr
    simp (disch := omega) [-hset_if, -Bool.decide_and, hset_ne]
    exact hr.fin rfl (by omega) (fun i hi => by simp (disch := omega) only [hset_ne])
  simp (disch := omega) [-hset_if, -Bool.decide_and, hset_ne]
  refine gif_dec (fun a2 => ?_) (fun a2 => ?_)
  · rw [if_neg (fun h => by have := h.1; omega)] at hr
    simp (disch := omega) [-hset_if, -Bool.decide_and, hset_ne]
    exact hr.fin rfl (by omega) (fun i hi => by simp (disch := omega) only [hset_ne])
  simp (disch := omega) [-hset_if, -Bool.decide_and, hset_ne]
  refine gif_dec (fun a3 => ?_) (fun a3 => ?_)
  · rw [if_neg (fun h => by have := h.2.1; omega)] at hr
    simp (disch := omega) [-hset_if, -Bool.decide_and, hset_ne]
    exact hr.fin rfl (by omega) (fun i hi => by simp (disch := omega) only [hset_ne])
  simp (disch := omega) [-hset_if, -Bool.decide_and, hset_ne]
  refine gif_dec (fun a4 => ?_) (fun a4 => ?_)
  · rw [if_neg (fun h => by have := h.2.1; omega)] at hr
    simp (disch := omega) [-hset_if, -Bool.decide_and, hset_ne]
    exact hr.fin rfl (by omega) (fun i hi => by simp (disch := omega) only [hset_ne])
  simp (disch := omega) [-hset_if, -Bool.decide_and, hset_ne]
  refine insideR_ok ?_
  simp (disch := omega) [-hset_if, -Bool.decide_and, hset_ne]
  refine cif_var (fun a5 => ?_) (fun a5 => ?_)
  rotate_left
  · rw [if_neg (fun h => by rw [inB_iff.2 h.2.2.1] at a5; cases a5)] at hr
    simp (disch := omega) [-hset_if, -Bool.decide_and, hset_ne]
    exact hr.fin rfl (by omega) (fun i hi => by simp (disch := omega) only [hset_ne])
  have a5 := inB_iff.1 a5
  simp (disch := omega) [-hset_if, -Bool.decide_and, hset_ne]
  refine gif_dec (fun a6 => ?_) (fun a6 => ?_)
  · rw [if_neg (fun h => by have := h.2.2.2; omega)] at hr
    simp (disch := omega) [-hset_if, -Bool.decide_and, hset_ne]
    exact hr.fin rfl (by omega) (fun i hi => by simp (disch := omega) only [hset_ne])
  simp (disch := omega) [-hset_if, -Bool.decide_and, hset_ne]
  refine cif_dec (fun a7 => ?_) (fun a7 => ?_)
  · rw [if_neg (fun h => by have := h.2.2.2; omega)] at hr
    simp (disch := omega) [-hset_if, -Bool.decide_and, hset_ne]
    exact hr.fin rfl (by omega) (fun i hi => by simp (disch := omega) only [hset_ne])
  have hok : okF used power elapsed interval := ⟨⟨by omega, by omega⟩, ⟨by omega, by omega⟩, a5, ⟨by omega, by omega⟩⟩
  rw [if_pos hok] at hr
  obtain ⟨b1, b2, b3, b4⟩ := sum_bound hok
  simp (disch := omega) [-hset_if, -Bool.decide_and, hset_ne]
  generalize used + power * (interval - elapsed) = m at *
  refine cif_dec (fun h => ?_) (fun h => ?_)
  · have e : (-2 * m + interval).tdiv (2 * interval) = rnd0 (-m) interval := by
      rw [rnd0, Int.tdiv_eq_ediv_of_nonneg (by omega)]; congr 1; omega
    have hb := Int.ediv_le_self (2 * interval) (show 0 ≤ 2 * -m + interval by omega)
    have hb2 := rnd0_nonneg (m := -m) (k := interval) (by omega) (by omega)
    have hb3 : rnd0 (-m) interval ≤ 2 * -m + interval := hb
    rw [fcR, if_pos h] at hr
    have e : (-(2 * m) + interval).tdiv (2 * interval) = rnd0 (-m) interval := by rw [← e]; congr 1; omega
    simp (disch := omega) [-hset_if, -Bool.decide_and, hset_ne, e]
    refine ⟨by omega, ?_⟩
    exact hr.fin rfl (by omega) (fun i hi => by simp (disch := omega) only [hset_ne])
  · have e : (2 * m + interval).tdiv (2 * interval) = rnd0 m interval := by
      rw [rnd0, Int.tdiv_eq_ediv_of_nonneg (by omega)]
    have hb := Int.ediv_le_self (2 * interval) (show 0 ≤ 2 * m + interval by omega)
    have hb2 := rnd0_nonneg (m := m) (k := interval) (by omega) (by omega)
    have hb3 : rnd0 m interval ≤ 2 * m + interval := hb
    rw [fcR, if_neg h] at hr
    simp (disch := omega) [-hset_if, -Bool.decide_and, hset_ne, e]
    refine ⟨by omega, ?_⟩
    exact hr.fin rfl (by omega) (fun i hi => by simp (disch := omega) only [hset_ne])
end Go.Aw.S56
