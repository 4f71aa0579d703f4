/-
  Chapter 15: the laws of the winner; what waits.
-/
import Derived.Test.YtmgadjflgiokeaaS15t
namespace Go.Aw.S15
open Go.RowKit Go.Proofs Go.Aw.Tab
set_option linter.unusedSimpArgs false
set_option linter.unusedVariables false
set_option maxRecDepth 10000
set_option maxHeartbeats 1000000
variable {rs : List Req} {dead on left now w at_e : Int} {np : Nat}
theorem fidx_at {α : Type} [Inhabited α] (p : α → Bool) : ∀ l, 0 ≤ fidx p l → fidx p l < l.length ∧ p (at_ l (fidx p l)) = true
  | [], h => by simp [fidx] at h
  | x :: r, h => by
    have ih := fidx_at p r
    have hge := fidx_ge p r
    simp only [fidx] at h ⊢
    split
    · rename_i hx; exact ⟨by simp, by simpa [at_] using hx⟩
    · rename_i hx
      rw [if_neg hx] at h
      split
      · rename_i h1; rw [if_pos h1] at h; omega
      · rename_i h1
        obtain ⟨i1, i2⟩ := ih (by omega)
        refine ⟨by simp; omega, ?_⟩
        have : (fidx p r + 1).toNat = (fidx p r).toNat + 1 := by omega
        simpa [at_, this] using i2
theorem fidx_lt0 {α : Type} [Inhabited α] {p : α → Bool} {l : List α} (h : fidx p l < 0) {i : Int} (h0 : 0 ≤ i) (h1 : i < l.length) : p (at_ l i) = false := by
  have h2 := fidx_iff p l
  have h3 : l.any p = false := by
    cases hx : l.any p
    · rfl
    · have := h2.2 hx; omega
  have := List.any_eq_false.1 h3 (at_ l i) (by rw [at_lt h0 h1]; exact List.getElem_mem _)
  simpa using this
theorem first_range {a b : Int} (h : on < rs.length) : -1 ≤ first on rs a b ∧ first on rs a b < rs.length := by
  have h1 := fidx_ge (inB a b) rs
  have h2 := fidx_at (inB a b) rs
  unfold first
  split
  · omega
  · refine ⟨h1, ?_⟩
    by_cases h3 : 0 ≤ fidx (inB a b) rs
    · exact (h2 h3).1
    · omega
theorem win_range (h : on < rs.length) : -1 ≤ win on rs ∧ win on rs < rs.length := by
  have h1 := @first_range rs on 1 1 h
  have h2 := @first_range rs on 2 2 h
  have h3 := @first_range rs on 1 17 h
  unfold win
  grind
theorem win_other (h : win on rs = w) (h1 : w ≠ on) (h2 : 0 ≤ w) : win (-1) rs = w := by
  unfold win first at *
  grind
theorem win_stay (h : win (-1) rs = w) (h2 : 0 ≤ w) : win w rs = w := by
  have a1 := fidx_at (inB 1 1) rs
  have a2 := fidx_at (inB 2 2) rs
  have a3 := fidx_at (inB 1 17) rs
  have hr : w < rs.length := by
    have := @win_range rs (-1) (by omega)
    omega
  have b1 : fidx (inB 1 1) rs < 0 → inB 1 1 (at_ rs w) = false := fun h => fidx_lt0 h h2 hr
  have b2 : fidx (inB 2 2) rs < 0 → inB 2 2 (at_ rs w) = false := fun h => fidx_lt0 h h2 hr
  have b3 : fidx (inB 1 17) rs < 0 → inB 1 17 (at_ rs w) = false := fun h => fidx_lt0 h h2 hr
  unfold win first at *
  grind
theorem formedB_iff : formedB np dead on left rs = true ↔ ((rs.length : Int) = np ∧ -1 ≤ on ∧ on < np ∧ 0 ≤ left ∧ 0 ≤ dead ∧ dead ≤ 3600 ∧ rs.any (fun r => !okLvl r) = false) := by unfold formedB; exact decide_eq_true_iff
theorem timelyE_iff : timelyE np dead on left rs now = 0 ↔ formedB np dead on left rs = true ∧ 0 ≤ now ∧ now ≤ 6311433599 ∧ left ≤ now := by
  unfold timelyE
  split
  · split
    · constructor
      · intro h; omega
      · intro h; omega
    · constructor
      · intro _; exact ⟨by assumption, by omega⟩
      · intro _; rfl
  · constructor
    · intro h; omega
    · intro h; exact absurd h.1 (by assumption)
def endT (dead on left now : Int) : Int := if 0 ≤ on then now + mxI 1 dead else mxI now (left + dead)
/-- The state ahead of the step at t, if the same is asked on and on. -/
def WInv (dead on left now : Int) (t : Int) (s : Sta) : Prop :=
  now ≤ t ∧ t ≤ endT dead on left now + 1 ∧ ((t = now ∧ s = ⟨on, left⟩) ∨ (now < t ∧ t ≤ endT dead on left now ∧ s.on = -1 ∧ s.left = (if 0 ≤ on then now else left)) ∨ t = endT dead on left now + 1)
theorem endT_le (hl : left ≤ now) (hd : 0 ≤ dead) : now ≤ endT dead on left now ∧ endT dead on left now ≤ now + dead + 1 := by
  unfold endT mxI
  split <;> split <;> omega
theorem waits_step (hf : formedB np dead on left rs = true) (hn0 : 0 ≤ now) (hn1 : now ≤ 1000000) (hl : left ≤ now) (hd : dead ≤ 60) (hw : win on rs = w) (h0 : 0 ≤ w) (h1 : w ≠ on) {t : Int} {s : Sta}
    (hi : WInv dead on left now t s) (ht : t ≤ endT dead on left now) :
    timelyE np dead s.on s.left rs t = 0 ∧ formedB np dead (nextS dead s rs t).on (nextS dead s rs t).left rs = true ∧ win (nextS dead s rs t).on rs = w ∧ ((nextS dead s rs t).on = w ↔ t = endT dead on left now) ∧ WInv dead on left now (t + 1) (nextS dead s rs t) := by
  have hf' := formedB_iff.1 hf
  have e1 := win_other hw h1 h0
  have e2 := win_stay e1 h0
  have hr := @win_range rs on (by omega)
  have hee := @endT_le dead on left now hl (by omega)
  obtain ⟨i1, i2, i3⟩ := hi
  rcases i3 with ⟨rfl, rfl⟩ | ⟨i3, i4, i5, i6⟩ | i3
  · refine ⟨timelyE_iff.2 ⟨hf, by omega, by omega, hl⟩, ?_⟩
    by_cases ho : 0 ≤ on
    · have en : nextS dead ⟨on, left⟩ rs t = ⟨-1, t⟩ := by unfold nextS; rw [if_pos (by simp only; omega)]
      rw [en]
      have : t < endT dead on left t := by unfold endT mxI; rw [if_pos ho]; split <;> omega
      refine ⟨formedB_iff.2 (by grind), e1, by simp only; omega, by omega, by omega, .inr (.inl ⟨by omega, by omega, rfl, by rw [if_pos ho]⟩)⟩
    · by_cases hs : dead ≤ t - left
      · have en : nextS dead ⟨on, left⟩ rs t = ⟨w, left⟩ := by unfold nextS; rw [if_neg (by simp only; omega), if_pos (by simp only; omega), hw]
        rw [en]
        have : t = endT dead on left t := by unfold endT mxI; rw [if_neg ho]; split <;> omega
        refine ⟨formedB_iff.2 (by grind), e2, ⟨fun _ => this, fun _ => rfl⟩, by omega, by omega, .inr (.inr (by omega))⟩
      · have en : nextS dead ⟨on, left⟩ rs t = ⟨on, left⟩ := by unfold nextS; rw [if_neg (by simp only; omega), if_neg (by simp only; omega)]
        rw [en]
        have : t < endT dead on left t := by unfold endT mxI; rw [if_neg ho]; split <;> omega
        refine ⟨hf, hw, by simp only; omega, by omega, by omega, .inr (.inl ⟨by omega, by omega, by simp only; omega, by rw [if_neg ho]⟩)⟩
  · have hform : formedB np dead s.on s.left rs = true := formedB_iff.2 (by grind)
    refine ⟨timelyE_iff.2 ⟨hform, by omega, by omega, by grind⟩, ?_⟩
    have hwin : win s.on rs = w := by rw [i5]; exact e1
    have key : (dead ≤ t - s.left) ↔ t = endT dead on left now := by
      rw [i6]
      unfold endT mxI at *
      grind
    by_cases hs : dead ≤ t - s.left
    · have en : nextS dead s rs t = ⟨w, s.left⟩ := by unfold nextS; rw [if_neg (by omega), if_pos (by omega), hwin]
      rw [en]
      refine ⟨formedB_iff.2 (by grind), e2, ⟨fun _ => key.1 hs, fun _ => rfl⟩, by omega, by omega, .inr (.inr (by have := key.1 hs; omega))⟩
    · have en : nextS dead s rs t = s := by unfold nextS; rw [if_neg (by omega), if_neg (by omega)]
      rw [en]
      have : t ≠ endT dead on left now := fun h => hs (key.2 h)
      refine ⟨hform, hwin, ⟨fun h => by omega, fun h => by omega⟩, by omega, by omega, .inr (.inl ⟨by omega, by omega, i5, i6⟩)⟩
  · omega
end Go.Aw.S15
