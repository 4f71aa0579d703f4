/-
  Chapter 46: slots as arguments.
-/
import Derived.Test.YtjjapgagcepmfaaS46a
namespace Go.Aw.S46
open Go.RowKit Go.Proofs Go.ChangeShapes Go.Aw.Tab
section
variable {H : Type} {enc : TypeId × Value → H} {W : World}
theorem open_slot (cs : List Value) (h : Opens enc Try.prog W 37 cs) (_ : cs.length = 2) : ∃ y : Slot, cs.map emb = y.cells ∧ ∀ G, SlR ⟨Try.prog, W⟩ G (fun _ => False) 4 Frame.cells y.val y.sent := by
  obtain ⟨hl, hf⟩ := h.struct Try.underlying37
  have h0 := hf 0 _ rfl
  obtain ⟨b, e1⟩ := (hf 1 _ rfl).bool Try.underlying4
  rw [show Try.prog.cellsOf 37 = 2 from by kernel_rfl] at hl
  rw [show Try.prog.cellsOf _ = 1 from by kernel_rfl] at e1
  match cs, hl with
  | [u, d], _ =>
    simp at e1
    subst e1
    have h1 : Opens enc Try.prog W 22 [u] := by
      have h2 := h0
      rw [show Try.prog.cellsOf _ = 1 from by kernel_rfl] at h2
      exact h2
    obtain ⟨fs, hs, _⟩ := open_frames Try.underlying22 h1 rfl (fun _ => .dead) (fun _ => False)
    exact ⟨⟨emb u, fs, b⟩, by simp [Slot.cells], fun G => hs.frame (fun _ h => h.elim)⟩
theorem open_slots {t : Nat} {v : Value} {cs : List Value} (ht : Try.prog.underlying t = some (.slice 37)) (h : Opens enc Try.prog W t cs) (hcs : cs = [v]) :
    ∃ l : List Slot, SlR ⟨Try.prog, W⟩ (fun _ => .dead) (fun _ => False) 2 Slot.cells (emb v) l ∧ ∀ x ∈ l, ∀ G, SlR ⟨Try.prog, W⟩ G (fun _ => False) 4 Frame.cells x.val x.sent := by
  obtain ⟨xs, h1, h2, _⟩ := h.slice (f := Slot.cells) (Q := fun y => ∀ G, SlR ⟨Try.prog, W⟩ G (fun _ => False) 4 Frame.cells y.val y.sent) ht (by kernel_rfl) (by decide) open_slot hcs (fun _ => .dead) (fun _ => False)
  exact ⟨xs, h1, h2⟩
theorem arg_slot {v : Value} {b0 : Nat} {d : DataW H} {p : List MemPlace} (hv : Value.okWide Try.prog W .any b0 37 v) (h : DataW.Trod enc Try.prog W 0 (fun _ => true) true 37 v d p) :
    ∃ (y : Value) (f : List Frame) (b : Bool), emb v = .agg #[y, .bool b] ∧ ∀ G, SlR ⟨Try.prog, W⟩ G (fun _ => False) 4 Frame.cells y f := by
  obtain ⟨cs, rfl, hc⟩ := WideShapes.okWide_struct Try.underlying37 hv
  obtain ⟨fuel, h⟩ := h
  obtain ⟨y, h1, h2⟩ := open_slot cs.toList ⟨fuel, _, h⟩ (by rw [Array.length_toList, hc]; kernel_rfl)
  refine ⟨y.val, y.sent, y.damaged, ?_, h2⟩
  have : emb (.agg cs) = .agg (cs.toList.map emb).toArray := by simp only [emb, renV_agg]; congr 1; apply Array.ext'; simp
  rw [this, h1]; rfl
end
end Go.Aw.S46
