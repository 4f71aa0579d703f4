/-
  Chapter 34: holds as arguments.
-/
import Derived.Test.YtlcngkigfcacmaaS34e
namespace Go.Aw.S34
open Go.RowKit Go.Proofs Go.ChangeShapes Go.Aw.Tab
set_option maxRecDepth 100000
section
variable {H : Type} {enc : TypeId × Value → H} {W : World}
theorem open_hold (cs : List Value) (h : Opens enc Try.prog W 43 cs) (_ : cs.length = 6) : ∃ y : Hold, cs.map emb = y.cells ∧ True := by
  obtain ⟨hl, hf⟩ := h.struct Try.underlying43
  obtain ⟨a, e0, _⟩ := (hf 0 _ rfl).string Try.underlying9
  obtain ⟨b, e1, _⟩ := (hf 1 _ rfl).int Try.underlying3
  obtain ⟨c, e2, _⟩ := (hf 2 _ rfl).int Try.underlying3
  obtain ⟨hl1, hf1⟩ := (hf 3 _ rfl).struct Try.underlying41
  obtain ⟨d, e3, _⟩ := (hf1 0 _ rfl).int Try.underlying3
  obtain ⟨e, e4, _⟩ := (hf1 1 _ rfl).int Try.underlying2
  obtain ⟨f, e5, _⟩ := (hf 4 _ rfl).int Try.underlying3
  rw [show Try.prog.cellsOf 43 = 6 from by kernel_rfl] at hl
  rw [show Try.prog.cellsOf _ = 1 from by kernel_rfl] at e0 e1 e2 e3 e4 e5
  rw [show Try.prog.cellsOf _ = 2 from by kernel_rfl] at e3 e4
  clear hf hf1 hl1
  match cs, hl with
  | [u, v, w, x, y, z], _ =>
    simp at e0 e1 e2 e3 e4 e5
    subst e0 e1 e2 e3 e4 e5
    exact ⟨⟨a, b, c, d, e, f⟩, by simp [Hold.cells], trivial⟩
theorem open_holds {t : Nat} {v : Value} {cs : List Value} (ht : Try.prog.underlying t = some (.slice 43)) (h : Opens enc Try.prog W t cs) (hcs : cs = [v]) :
    ∃ l : List Hold, (∀ G, SlR ⟨Try.prog, W⟩ G (fun _ => False) 6 Hold.cells (emb v) l) ∧ l.length ≤ 9223372036854775807 := by
  obtain ⟨xs, h1, _, h3⟩ := h.slice (f := Hold.cells) (Q := fun _ => True) ht (by kernel_rfl) (by decide) open_hold hcs (fun _ => .dead) (fun _ => False)
  exact ⟨xs, fun G => h1.frame (fun _ h => h.elim), h3⟩
theorem arg_value {v : Value} {b0 : Nat} {d : DataW H} {p : List MemPlace} (hv : Value.okWide Try.prog W .any b0 41 v) (h : DataW.Trod enc Try.prog W 0 (fun _ => true) true 41 v d p) :
    ∃ (a b : Int), emb v = .agg #[.int .i64 a, .int .i64 b] := by
  obtain ⟨cs, rfl, hc⟩ := WideShapes.okWide_struct Try.underlying41 hv
  obtain ⟨fuel, h⟩ := h
  have h : Opens enc Try.prog W 41 cs.toList := ⟨fuel, _, h⟩
  obtain ⟨hl, hf⟩ := h.struct Try.underlying41
  obtain ⟨a, e0, _⟩ := (hf 0 _ rfl).int Try.underlying3
  obtain ⟨b, e1, _⟩ := (hf 1 _ rfl).int Try.underlying2
  rw [show Try.prog.cellsOf 41 = 2 from by kernel_rfl] at hl
  rw [show Try.prog.cellsOf _ = 1 from by kernel_rfl] at e0 e1
  clear hf
  obtain ⟨l⟩ := cs
  match l, hl with
  | [u, y], _ =>
    simp at e0 e1
    subst e0 e1
    exact ⟨a, b, by simp only [emb, renV_agg]; congr 1; apply Array.ext'; simp⟩
end
end Go.Aw.S34
