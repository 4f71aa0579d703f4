/-
  Chapter 50: arguments.
-/
import Derived.Test.YtfeclhjbkphjdaaS50m
namespace Go.Aw.S50
open Go.RowKit Go.Proofs Go.ChangeShapes Go.Aw.Tab
set_option maxRecDepth 100000
section
variable {H : Type} {enc : TypeId × Value → H} {W : World}
theorem open_ans (cs : List Value) (h : Opens enc Try.prog W 33 cs) (_ : cs.length = 4) : ∃ y : Ans, cs.map emb = y.cells ∧ cs = y.cells := by
  obtain ⟨hl, hf⟩ := h.struct Try.underlying33
  obtain ⟨a, e0, _⟩ := (hf 0 _ rfl).int Try.underlying3
  obtain ⟨b, e1, _⟩ := (hf 1 _ rfl).int Try.underlying3
  obtain ⟨c, e2, _⟩ := (hf 2 _ rfl).int Try.underlying26
  obtain ⟨d, e3, _⟩ := (hf 3 _ rfl).string Try.underlying9
  rw [show Try.prog.cellsOf 33 = 4 from by kernel_rfl] at hl
  rw [show Try.prog.cellsOf _ = 1 from by kernel_rfl] at e0 e1 e2 e3
  clear hf
  match cs, hl with
  | [u, v, w, x], _ =>
    simp at e0 e1 e2 e3
    subst e0 e1 e2 e3
    exact ⟨⟨a, b, c, d⟩, by simp [Ans.cells], rfl⟩
theorem open_ask (cs : List Value) (h : Opens enc Try.prog W 35 cs) (_ : cs.length = 3) : ∃ y : Ask, cs.map emb = y.cells ∧ cs = y.cells := by
  obtain ⟨hl, hf⟩ := h.struct Try.underlying35
  obtain ⟨a, e0, _⟩ := (hf 0 _ rfl).int Try.underlying3
  obtain ⟨b, e1, _⟩ := (hf 1 _ rfl).int Try.underlying3
  obtain ⟨d, e3, _⟩ := (hf 2 _ rfl).string Try.underlying9
  rw [show Try.prog.cellsOf 35 = 3 from by kernel_rfl] at hl
  rw [show Try.prog.cellsOf _ = 1 from by kernel_rfl] at e0 e1 e3
  clear hf
  match cs, hl with
  | [u, v, x], _ =>
    simp at e0 e1 e3
    subst e0 e1 e3
    exact ⟨⟨a, b, d⟩, by simp [Ask.cells], rfl⟩
theorem open_op (cs : List Value) (h : Opens enc Try.prog W 37 cs) (_ : cs.length = 11) : ∃ y : Opn, cs.map emb = y.cells ∧ True := by
  obtain ⟨hl, hf⟩ := h.struct Try.underlying37
  obtain ⟨a, e0, _⟩ := (hf 0 _ rfl).int Try.underlying3
  obtain ⟨b, e1, _⟩ := (hf 1 _ rfl).string Try.underlying9
  have h2 := hf 2 _ rfl
  obtain ⟨c, e3, _⟩ := (hf 3 _ rfl).int Try.underlying3
  have h4 := hf 4 _ rfl
  obtain ⟨d, e5, _⟩ := (hf 5 _ rfl).int Try.underlying26
  rw [show Try.prog.cellsOf 37 = 11 from by kernel_rfl] at hl
  rw [show Try.prog.cellsOf _ = 1 from by kernel_rfl] at e0 e1 e3 e5
  rw [show Try.prog.cellsOf _ = 4 from by kernel_rfl] at h2
  rw [show Try.prog.cellsOf _ = 3 from by kernel_rfl] at h4
  clear hf
  match cs, hl with
  | [c0, c1, c2, c3, c4, c5, c6, c7, c8, c9, c10], _ =>
    obtain ⟨x, _, e2⟩ := open_ans _ h2 (by simp)
    obtain ⟨y, _, e4⟩ := open_ask _ h4 (by simp)
    simp [Ans.cells] at e2
    simp [Ask.cells] at e4
    simp at e0 e1 e3 e5
    obtain ⟨rfl, rfl, rfl, rfl⟩ := e2
    obtain ⟨rfl, rfl, rfl⟩ := e4
    subst e0 e1 e3 e5
    exact ⟨⟨a, b, x, c, y, d⟩, by simp [Opn.cells], trivial⟩
theorem open_ops {t : Nat} {v : Value} {cs : List Value} (ht : Try.prog.underlying t = some (.slice 37)) (h : Opens enc Try.prog W t cs) (hcs : cs = [v]) :
    ∃ l : List Opn, (∀ G, SlR ⟨Try.prog, W⟩ G (fun _ => False) 11 Opn.cells (emb v) l) ∧ l.length ≤ 9223372036854775807 := by
  obtain ⟨xs, h1, _, h3⟩ := h.slice (f := Opn.cells) (Q := fun _ => True) ht (by kernel_rfl) (by decide) open_op hcs (fun _ => .dead) (fun _ => False)
  exact ⟨xs, fun G => h1.frame (fun _ h => h.elim), h3⟩
end
end Go.Aw.S50
