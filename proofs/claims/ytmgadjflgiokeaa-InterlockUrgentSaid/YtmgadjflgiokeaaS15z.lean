/-
  Chapter 15: InterlockUrgent.
-/
import Derived.Test.YtmgadjflgiokeaaS15y
namespace Go.Aw.S15
open Go.RowKit Go.Proofs Go.Aw.Tab
set_option linter.unusedSimpArgs false
set_option linter.unusedVariables false
set_option maxRecDepth 10000
set_option maxHeartbeats 2000000
set_option pp.deepTerms false
set_option pp.deepTerms.threshold 4
set_option pp.maxSteps 1500
variable {w0 : World} {n : Nat} {H : Heap} {K : Value → Nat → Heap → Prop}
variable {pv ov : Value} {nm : ByteArray} {ps : List ByteArray} {dead now fr who t : Int} {np : Nat}
attribute [local simp] IRow.cells intC Sta.cells
/-- One point asks with the level 1, the others with other levels. -/
def turnR (who : Int) (k : Nat) (x : Int) : Int := if (k : Int) = who then 1 else if x = 1 then 3 else x
def turnL (who : Int) (xs : List Int) : List Int := xs.mapIdx (turnR who)
theorem turnL_len {xs : List Int} : (turnL who xs).length = xs.length := by simp [turnL]
theorem turnL_at {xs : List Int} {k : Nat} (h : k < xs.length) : at_ (turnL who xs) (k : Int) = turnR who k (at_ xs (k : Int)) := by
  rw [at_nat h, at_nat (by rw [turnL_len]; exact h)]; simp [turnL]
theorem turnL_row {xs : List Int} (h : rowB np xs = true) : rowB np (turnL who xs) = true := by
  simp only [rowB, Bool.and_eq_true, decide_eq_true_eq, List.all_eq_true] at h ⊢
  refine ⟨by rw [turnL_len]; exact h.1, fun x hx => ?_⟩
  obtain ⟨k, hk, rfl⟩ := List.getElem_of_mem hx
  rw [turnL_len] at hk
  have := h.2 _ (List.getElem_mem hk)
  simp only [turnL, List.getElem_mapIdx, turnR]
  simp only [lvlB, decide_eq_true_eq] at this ⊢
  split <;> (try split) <;> omega
theorem win_who {xs : List Int} {on : Int} (h0 : 0 ≤ who) (h1 : who < xs.length) : win on ((turnL who xs).map askR) = who := by
  have key : ∀ k : Nat, k < xs.length → inB 1 1 (at_ ((turnL who xs).map askR) (k : Int)) = decide ((k : Int) = who) := fun k hk => by
    rw [at_map (by rw [turnL_len]; exact hk), turnL_at hk]
    unfold turnR askR inB asksB
    by_cases h : (k : Int) = who
    · simp [h]
    · rw [if_neg h, decide_eq_false h]
      split <;> (split <;> simp <;> omega)
  have hf : fidx (inB 1 1) ((turnL who xs).map askR) = who := by
    obtain ⟨j, rfl⟩ := Int.eq_ofNat_of_zero_le h0
    refine fidx_found (by simp [turnL_len]; omega) ?_ (fun q hq => ?_)
    · rw [key j (by omega)]; simp
    · rw [key q (by omega)]; simp; omega
  have hon : ∀ z : Int, 0 ≤ z → inB 1 1 (at_ ((turnL who xs).map askR) z) = true → z = who := fun z hz h => by
    by_cases hl : z < xs.length
    · obtain ⟨k, rfl⟩ := Int.eq_ofNat_of_zero_le hz
      rw [key k (by omega)] at h
      simpa using h
    · exfalso
      have : at_ ((turnL who xs).map askR) z = default := by
        unfold at_
        rw [List.getD_eq_getElem?_getD, List.getElem?_eq_none (by simp [turnL_len]; omega)]; rfl
      rw [this] at h
      simp [inB, asksB] at h
      revert h
      decide
  have e : first on ((turnL who xs).map askR) 1 1 = who := by
    unfold first
    split
    · rename_i h; exact hon on h.1 h.2
    · exact hf
  unfold win
  rw [e, if_pos h0]
/-- What holds from a scan on. -/
def Urg (dead now fr who : Int) (j : Nat) (s : Sta) : Prop := s.on = who ∨ s.on = -1 ∧ s.left ≤ now + fr ∧ ((j : Int) = fr ∨ (j : Int) - fr < dead)
theorem urg_next {s : Sta} {xs : List Int} {j : Nat} (h0 : 0 ≤ who) (h1 : who < xs.length) (hg : Good np now j s) (hf : fr < j → ∃ q, (q : Nat) + 1 = j ∧ Urg dead now fr who q s) (hj : fr ≤ j) :
    Urg dead now fr who j (nextS dead s ((turnL who xs).map askR) (now + j)) := by
  obtain ⟨g1, g2, g3, g4⟩ := hg
  unfold nextS
  rw [win_who h0 h1]
  by_cases h : fr < j
  · obtain ⟨q, hq, hu⟩ := hf h
    unfold Urg at *
    grind
  · unfold Urg
    grind
theorem urg_all {T : List (List Int)} {l : List Sta} {f : Nat} {s0 : Sta} (h0 : 0 ≤ who) (hw : who < np) (e2 : ∀ j, j < l.length → Good np now j (prevS s0 l j) ∧ at_ l (j : Int) = nextS dead (prevS s0 l j) ((at_ T (j : Int)).map askR) (now + j))
    (hT : ∀ j : Nat, f ≤ j → j < l.length → ∃ xs, at_ T (j : Int) = turnL who xs ∧ xs.length = np) : ∀ i, f ≤ i → i < l.length → Urg dead now f who i (at_ l (i : Int)) := by
  intro i
  induction i with
  | zero =>
    intro h1 h2
    obtain ⟨b1, b2⟩ := e2 0 h2
    obtain ⟨xs, b3, b4⟩ := hT 0 h1 h2
    rw [b2, b3]
    exact urg_next h0 (by omega) b1 (fun h => by omega) (by omega)
  | succ i ih =>
    intro h1 h2
    obtain ⟨b1, b2⟩ := e2 (i + 1) h2
    obtain ⟨xs, b3, b4⟩ := hT (i + 1) h1 h2
    rw [b2, b3]
    refine urg_next h0 (by omega) b1 (fun h => ⟨i, rfl, ?_⟩) (by omega)
    unfold prevS
    rw [if_neg (by omega), show ((i + 1 : Nat) : Int) - 1 = (i : Int) from by omega]
    exact ih (by omega) (by omega)
end Go.Aw.S15
