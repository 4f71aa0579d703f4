/-
  Chapter 15: lists of lists of numbers as arguments.
-/
import Derived.Test.YtmgadjflgiokeaaS15p
import Derived.Test.YtmgadjflgiokeaaS15s
namespace Go.Aw.S15
open Go.RowKit Go.Proofs Go.ChangeShapes Go.Aw.Tab
set_option maxRecDepth 100000
section
variable {H : Type} {enc : TypeId × Value → H} {W : World}
theorem open_irow (cs : List Value) (h : Opens enc Try.prog W 60 cs) (hl : cs.length = 1) : ∃ y : IRow, cs.map emb = y.cells ∧ ∀ G, SlR ⟨Try.prog, W⟩ G (fun _ => False) 1 intC y.val y.xs := by
  match cs, hl with
  | [v], _ =>
    obtain ⟨l, h1, _⟩ := open_ints Try.underlying60 h rfl
    exact ⟨⟨emb v, l⟩, rfl, h1⟩
theorem open_irows {t : Nat} {v : Value} {cs : List Value} (ht : Try.prog.underlying t = some (.slice 60)) (h : Opens enc Try.prog W t cs) (hcs : cs = [v]) :
    ∃ l : List IRow, (∀ G, SlR ⟨Try.prog, W⟩ G (fun _ => False) 1 IRow.cells (emb v) l) ∧ (∀ x ∈ l, ∀ G, SlR ⟨Try.prog, W⟩ G (fun _ => False) 1 intC x.val x.xs) ∧ l.length ≤ 9223372036854775807 := by
  obtain ⟨xs, h1, h2, h3⟩ := h.slice (f := IRow.cells) (Q := fun y => ∀ G, SlR ⟨Try.prog, W⟩ G (fun _ => False) 1 intC y.val y.xs) ht (by kernel_rfl) (by decide) open_irow hcs (fun _ => .dead) (fun _ => False)
  exact ⟨xs, fun G => h1.frame (fun _ h => h.elim), h2, h3⟩
end
end Go.Aw.S15
