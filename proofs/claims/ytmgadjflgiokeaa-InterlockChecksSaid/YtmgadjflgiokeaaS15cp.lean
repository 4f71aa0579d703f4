/-
  Chapter 15: sorted strings without repetition, plain.
-/
import Derived.Test.YtmgadjflgiokeaaS15cd
namespace Go.Aw.S15
open Go.RowKit Go.Proofs Go.Aw.Tab
set_option linter.unusedSimpArgs false
set_option linter.unusedVariables false
theorem bytes_inj {a b : ByteArray} (h : bytesOf a = bytesOf b) : a = b := by rw [← bytes_of a, ← bytes_of b, h]
theorem sortS_pair (l : List ByteArray) : (sortS l).Pairwise fun a b => bytesOf a ≤ bytesOf b := by
  unfold sortS
  rw [List.pairwise_map]
  have := List.pairwise_mergeSort (le := fun x y : List UInt8 => decide (x ≤ y)) (fun a b c h1 h2 => by
    simp only [decide_eq_true_eq] at *
    exact List.le_trans h1 h2) (fun a b => by
    simp only [Bool.or_eq_true, decide_eq_true_eq]
    exact List.le_total a b) (l.map bytesOf)
  exact this.imp (fun h => by simpa [of_bytes] using h)
theorem sortS_perm (l : List ByteArray) : (sortS l).Perm l := by
  unfold sortS
  have h := (List.mergeSort_perm (l.map bytesOf) (fun x y => decide (x ≤ y))).map ofBytes
  rw [List.map_map] at h
  have e : (ofBytes ∘ bytesOf) = id := by funext x; rfl
  rw [e, List.map_id] at h
  exact h
theorem compS_mem (x : ByteArray) : ∀ l : List ByteArray, x ∈ compS l ↔ x ∈ l
  | [] => Iff.rfl
  | [a] => Iff.rfl
  | a :: b :: r => by
    have ih := compS_mem x (b :: r)
    unfold compS
    split
    · rename_i e
      subst e
      rw [ih]; simp
    · rw [List.mem_cons, ih]; simp
theorem compS_sub : ∀ l : List ByteArray, (compS l).Sublist l
  | [] => .slnil
  | [a] => List.Sublist.refl _
  | a :: b :: r => by
    have ih := compS_sub (b :: r)
    unfold compS
    split
    · exact ih.cons _
    · exact ih.cons_cons _
theorem compS_nodup : ∀ l : List ByteArray, (l.Pairwise fun a b => bytesOf a ≤ bytesOf b) → (compS l).Nodup
  | [], _ => List.Pairwise.nil
  | [a], _ => List.pairwise_singleton _ _
  | a :: b :: r, h => by
    rw [List.pairwise_cons] at h
    have ih := compS_nodup (b :: r) h.2
    unfold compS
    split
    · exact ih
    · rename_i e
      refine List.nodup_cons.2 ⟨fun hm => ?_, ih⟩
      have hm := (compS_mem a _).1 hm
      rcases List.mem_cons.1 hm with e2 | hm
      · exact e e2
      · have h1 := (List.pairwise_cons.1 h.2).1 a hm
        have h2 := h.1 b (by simp)
        exact e (bytes_inj (List.le_antisymm h2 h1))
theorem compS_len (l : List ByteArray) : (compS (sortS l)).length = l.length ↔ l.Nodup := by
  have hp := sortS_perm l
  constructor
  · intro h
    have h1 := (compS_sub (sortS l)).eq_of_length (by rw [h, sortS_len])
    have h2 := compS_nodup _ (sortS_pair l)
    rw [h1] at h2
    exact hp.nodup_iff.1 h2
  · intro h
    have h1 := hp.nodup_iff.2 h
    have key : ∀ l : List ByteArray, l.Nodup → compS l = l := by
      intro l
      induction l with
      | nil => intro _; rfl
      | cons a r ih =>
        intro hn
        cases r with
        | nil => rfl
        | cons b r =>
          rw [List.nodup_cons] at hn
          unfold compS
          rw [if_neg (fun e => hn.1 (by rw [e]; simp)), ih hn.2]
    rw [key _ h1, sortS_len]
end Go.Aw.S15
