/-
  Chapter 34: between two changes nothing changes; no program.
-/
import Derived.Test.YtlcngkigfcacmaaS34l
namespace Go.Aw.S34
open Go.RowKit Go.Proofs Go.Aw.Tab
set_option linter.unusedSimpArgs false
set_option linter.unusedVariables false
set_option maxRecDepth 10000
set_option maxHeartbeats 1000000
variable {l : List Hold} {t fr to : Int}
theorem better_congr {a b : Int} {j : Nat} {x : Int} (hj : j < l.length) (h : ∀ y ∈ l, (y.fr ≤ a ∧ a < y.to ↔ y.fr ≤ b ∧ b < y.to)) : better l a j x = better l b j x := by
  have hm : at_ l (j : Int) ∈ l := by rw [at_nat hj]; exact List.getElem_mem _
  have := h _ hm
  unfold better
  by_cases c : (at_ l (j : Int)).fr ≤ a ∧ a < (at_ l (j : Int)).to ∧ (x < 0 ∨ (at_ l x).seq < (at_ l (j : Int)).seq)
  · rw [if_pos c, if_pos ⟨(this.1 ⟨c.1, c.2.1⟩).1, (this.1 ⟨c.1, c.2.1⟩).2, c.2.2⟩]
  · rw [if_neg c, if_neg (fun d => c ⟨(this.2 ⟨d.1, d.2.1⟩).1, (this.2 ⟨d.1, d.2.1⟩).2, d.2.2⟩)]
theorem govF_congr {a b : Int} (h : ∀ y ∈ l, (y.fr ≤ a ∧ a < y.to ↔ y.fr ≤ b ∧ b < y.to)) : ∀ (k j : Nat) (x : Int), j + k ≤ l.length → govF l a k j x = govF l b k j x
  | 0, _, _, _ => rfl
  | k + 1, j, x, hk => by
    rw [govF, govF, better_congr (by omega) h]
    exact govF_congr h k (j + 1) _ (by omega)
theorem gov_congr {a b : Int} (h : ∀ y ∈ l, (y.fr ≤ a ∧ a < y.to ↔ y.fr ≤ b ∧ b < y.to)) : gov l a = gov l b := govF_congr h _ _ _ (by omega)
theorem last_end (a t : Int) (h : a ≤ t) : ∀ es : List Int, ∃ e, (e = a ∨ e ∈ es ∧ a < e) ∧ a ≤ e ∧ e ≤ t ∧ ∀ x ∈ es, x ≤ t → x ≤ e
  | [] => ⟨a, .inl rfl, Int.le_refl _, h, by simp⟩
  | y :: r => by
    obtain ⟨e, h1, h2, h3, h4⟩ := last_end a t h r
    by_cases c : y ≤ t ∧ e < y
    · refine ⟨y, .inr ⟨List.mem_cons_self .., by omega⟩, by omega, c.1, fun x hx h5 => ?_⟩
      rcases List.mem_cons.1 hx with rfl | hx
      · omega
      · have := h4 x hx h5; omega
    · refine ⟨e, h1.imp_right (fun h => ⟨List.mem_cons_of_mem _ h.1, h.2⟩), h2, h3, fun x hx h5 => ?_⟩
      rcases List.mem_cons.1 hx with rfl | hx
      · omega
      · exact h4 x hx h5
theorem gov_quiet {a t : Int} (h : a ≤ t) (hn : ∀ x ∈ endsL l, x ≤ t → x ≤ a) : gov l t = gov l a := by
  refine gov_congr fun y hy => ?_
  have h1 := hn y.fr (List.mem_flatMap.2 ⟨y, hy, by simp⟩)
  have h2 := hn y.to (List.mem_flatMap.2 ⟨y, hy, by simp⟩)
  constructor <;> intro h3 <;> constructor <;> omega
/-- Between two changes the same hold governs. -/
theorem gov_const (h : chk l = 0) {a t : Int} (h1 : a ≤ t) (h2 : t < nx2 l to a) : gov l t = gov l a := by
  obtain ⟨e, h3, h4, h5, h6⟩ := last_end a t h1 (endsL l)
  rw [gov_quiet h5 h6]
  rcases h3 with rfl | ⟨h3, h7⟩
  · rfl
  · refine Decidable.byContradiction fun h8 => ?_
    rcases rnx_char h a with ⟨c1, c2⟩ | ⟨c1, c2, c3, c4, c5⟩
    · exact h8 (c2 e h3 h7)
    · have := c5 e h3 h7 h8
      unfold nx2 at h2
      split at h2 <;> omega
theorem nx2_le {a : Int} : nx2 l to a ≤ to := by unfold nx2; split <;> omega
theorem nx2_gt (h : chk l = 0) {a : Int} (ha : a < to) : a < nx2 l to a := by
  unfold nx2
  rcases rnx_char h a with ⟨c1, c2⟩ | ⟨c1, c2, c3, c4, c5⟩
  · rw [if_pos (.inl c1)]; exact ha
  · split <;> omega
/-- A piece that is not the last one ends where another hold governs. -/
theorem nx2_next (h : chk l = 0) {a : Int} (h1 : nx2 l to a < to) : 0 ≤ rnx l a ∧ rnx l a = nx2 l to a ∧ gov l (nx2 l to a) ≠ gov l a := by
  unfold nx2 at h1 ⊢
  rcases rnx_char h a with ⟨c1, c2⟩ | ⟨c1, c2, c3, c4, c5⟩
  · rw [if_pos (.inl c1)] at h1; omega
  · split at h1
    · omega
    · rename_i c6
      rw [if_neg c6]
      exact ⟨c1, rfl, c4⟩
end Go.Aw.S34
