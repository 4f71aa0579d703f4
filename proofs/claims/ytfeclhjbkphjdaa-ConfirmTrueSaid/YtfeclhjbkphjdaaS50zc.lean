/-
  Chapter 50: arguments, with the bounds of what they hold.
-/
import Derived.Test.YtfeclhjbkphjdaaS50n
import Derived.Test.YtfeclhjbkphjdaaS50w
import Derived.Test.YtfeclhjbkphjdaaS50y
namespace Go.Aw.S50
open Go.RowKit Go.Proofs Go.ChangeShapes Go.Aw.Tab
set_option maxRecDepth 100000
section
variable {H : Type} {enc : TypeId × Value → H} {W : World}
def inI (o : Opn) : Prop := -9223372036854775808 ≤ o.client ∧ o.client ≤ 9223372036854775807
theorem open_op2 (cs : List Value) (h : Opens enc Try.prog W 37 cs) (hlen : cs.length = 11) : ∃ y : Opn, cs.map emb = y.cells ∧ inI y := by
  obtain ⟨y, hy, -⟩ := open_op cs h hlen
  obtain ⟨hl, hf⟩ := h.struct Try.underlying37
  obtain ⟨a, e0, hw⟩ := (hf 3 _ rfl).int Try.underlying3
  refine ⟨y, hy, ?_⟩
  rw [show Try.prog.cellsOf _ = 1 from by kernel_rfl] at e0
  clear hf
  match cs, hlen with
  | [c0, c1, c2, c3, c4, c5, c6, c7, c8, c9, c10], _ =>
    simp at e0
    subst e0
    simp [Opn.cells] at hy
    obtain ⟨-, -, -, -, -, -, e, -⟩ := hy
    unfold inI
    rw [← e]
    exact wf64 hw
theorem open_ops2 {t : Nat} {v : Value} {cs : List Value} (ht : Try.prog.underlying t = some (.slice 37)) (h : Opens enc Try.prog W t cs) (hcs : cs = [v]) :
    ∃ l : List Opn, (∀ G, SlR ⟨Try.prog, W⟩ G (fun _ => False) 11 Opn.cells (emb v) l) ∧ ∀ o ∈ l, -9223372036854775808 ≤ o.client ∧ o.client ≤ 9223372036854775807 := by
  obtain ⟨xs, h1, h2, h3⟩ := h.slice (f := Opn.cells) (Q := inI) ht (by kernel_rfl) (by decide) open_op2 hcs (fun _ => .dead) (fun _ => False)
  exact ⟨xs, fun G => h1.frame (fun _ h => h.elim), h2⟩
theorem open_str (cs : List Value) (h : Opens enc Try.prog W 9 cs) (_ : cs.length = 1) : ∃ y : ByteArray, cs.map emb = strC y ∧ True := by
  obtain ⟨s, rfl, hs⟩ := h.string Try.underlying9
  exact ⟨s, by simp [strC], trivial⟩
theorem open_strs {t : Nat} {v : Value} {cs : List Value} (ht : Try.prog.underlying t = some (.slice 9)) (h : Opens enc Try.prog W t cs) (hcs : cs = [v]) :
    ∃ l : List ByteArray, (∀ G, SlR ⟨Try.prog, W⟩ G (fun _ => False) 1 strC (emb v) l) ∧ l.length ≤ 9223372036854775807 := by
  obtain ⟨xs, h1, _, h3⟩ := h.slice (f := strC) (Q := fun _ => True) ht (by kernel_rfl) (by decide) open_str hcs (fun _ => .dead) (fun _ => False)
  exact ⟨xs, fun G => h1.frame (fun _ h => h.elim), h3⟩
end
end Go.Aw.S50
