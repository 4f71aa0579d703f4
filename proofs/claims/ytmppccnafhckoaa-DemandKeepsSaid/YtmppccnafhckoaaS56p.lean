/-
  Chapter 56: arguments.
-/
import Derived.Test.YtmppccnafhckoaaS56c
namespace Go.Aw.S56
open Go.RowKit Go.Proofs Go.ChangeShapes Go.Aw.Tab
set_option maxRecDepth 100000
section
variable {H : Type} {enc : TypeId × Value → H} {W : World}
theorem open_load (cs : List Value) (h : Opens enc Try.prog W 42 cs) (_ : cs.length = 5) : ∃ y : Load, cs.map emb = y.cells ∧ True := by
  obtain ⟨hl, hf⟩ := h.struct Try.underlying42
  obtain ⟨a, e0, _⟩ := (hf 0 _ rfl).string Try.underlying9
  obtain ⟨b, e1, _⟩ := (hf 1 _ rfl).int Try.underlying3
  obtain ⟨c, e2, _⟩ := (hf 2 _ rfl).int Try.underlying2
  obtain ⟨d, e3, _⟩ := (hf 3 _ rfl).int Try.underlying3
  obtain ⟨e, e4, _⟩ := (hf 4 _ rfl).int Try.underlying3
  rw [show Try.prog.cellsOf 42 = 5 from by kernel_rfl] at hl
  rw [show Try.prog.cellsOf _ = 1 from by kernel_rfl] at e0 e1 e2 e3 e4
  clear hf
  match cs, hl with
  | [u, v, w, x, y], _ =>
    simp at e0 e1 e2 e3 e4
    subst e0 e1 e2 e3 e4
    exact ⟨⟨a, b, c, d, e⟩, by simp [Load.cells], trivial⟩
theorem open_loads {t : Nat} {v : Value} {cs : List Value} (ht : Try.prog.underlying t = some (.slice 42)) (h : Opens enc Try.prog W t cs) (hcs : cs = [v]) :
    ∃ l : List Load, (∀ G, SlR ⟨Try.prog, W⟩ G (fun _ => False) 5 Load.cells (emb v) l) ∧ l.length ≤ 9223372036854775807 := by
  obtain ⟨xs, h1, _, h3⟩ := h.slice (f := Load.cells) (Q := fun _ => True) ht (by kernel_rfl) (by decide) open_load hcs (fun _ => .dead) (fun _ => False)
  exact ⟨xs, fun G => h1.frame (fun _ h => h.elim), h3⟩
theorem open_sta (cs : List Value) (h : Opens enc Try.prog W 53 cs) (_ : cs.length = 2) : ∃ y : Sta, cs.map emb = y.cells ∧ True := by
  obtain ⟨hl, hf⟩ := h.struct Try.underlying53
  obtain ⟨a, e0⟩ := (hf 0 _ rfl).bool Try.underlying4
  obtain ⟨b, e1, _⟩ := (hf 1 _ rfl).int Try.underlying3
  rw [show Try.prog.cellsOf 53 = 2 from by kernel_rfl] at hl
  rw [show Try.prog.cellsOf _ = 1 from by kernel_rfl] at e0 e1
  clear hf
  match cs, hl with
  | [u, v], _ =>
    simp at e0 e1
    subst e0 e1
    exact ⟨⟨a, b⟩, by simp [Sta.cells], trivial⟩
theorem open_stas {t : Nat} {v : Value} {cs : List Value} (ht : Try.prog.underlying t = some (.slice 53)) (h : Opens enc Try.prog W t cs) (hcs : cs = [v]) :
    ∃ l : List Sta, (∀ G, SlR ⟨Try.prog, W⟩ G (fun _ => False) 2 Sta.cells (emb v) l) ∧ l.length ≤ 9223372036854775807 := by
  obtain ⟨xs, h1, _, h3⟩ := h.slice (f := Sta.cells) (Q := fun _ => True) ht (by kernel_rfl) (by decide) open_sta hcs (fun _ => .dead) (fun _ => False)
  exact ⟨xs, fun G => h1.frame (fun _ h => h.elim), h3⟩
theorem open_int (cs : List Value) (h : Opens enc Try.prog W 3 cs) (_ : cs.length = 1) : ∃ y : Int, cs.map emb = intC y ∧ True := by
  obtain ⟨a, rfl, _⟩ := h.int Try.underlying3
  exact ⟨a, by simp [intC], trivial⟩
theorem open_ints {t : Nat} {v : Value} {cs : List Value} (ht : Try.prog.underlying t = some (.slice 3)) (h : Opens enc Try.prog W t cs) (hcs : cs = [v]) :
    ∃ l : List Int, (∀ G, SlR ⟨Try.prog, W⟩ G (fun _ => False) 1 intC (emb v) l) ∧ l.length ≤ 9223372036854775807 := by
  obtain ⟨xs, h1, _, h3⟩ := h.slice (f := intC) (Q := fun _ => True) ht (by kernel_rfl) (by decide) open_int hcs (fun _ => .dead) (fun _ => False)
  exact ⟨xs, fun G => h1.frame (fun _ h => h.elim), h3⟩
theorem open_int64 (cs : List Value) (h : Opens enc Try.prog W 2 cs) (_ : cs.length = 1) : ∃ y : Int, cs.map emb = intC y ∧ True := by
  obtain ⟨a, rfl, _⟩ := h.int Try.underlying2
  exact ⟨a, by simp [intC], trivial⟩
theorem open_int64s {t : Nat} {v : Value} {cs : List Value} (ht : Try.prog.underlying t = some (.slice 2)) (h : Opens enc Try.prog W t cs) (hcs : cs = [v]) :
    ∃ l : List Int, (∀ G, SlR ⟨Try.prog, W⟩ G (fun _ => False) 1 intC (emb v) l) ∧ l.length ≤ 9223372036854775807 := by
  obtain ⟨xs, h1, _, h3⟩ := h.slice (f := intC) (Q := fun _ => True) ht (by kernel_rfl) (by decide) open_int64 hcs (fun _ => .dead) (fun _ => False)
  exact ⟨xs, fun G => h1.frame (fun _ h => h.elim), h3⟩
end
end Go.Aw.S56
