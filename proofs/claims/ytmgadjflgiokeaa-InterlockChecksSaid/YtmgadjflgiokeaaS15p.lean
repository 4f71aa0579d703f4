/-
  Chapter 15: groups and requests as arguments.
-/
import Derived.Test.YtmgadjflgiokeaaS15m
namespace Go.Aw.S15
open Go.RowKit Go.Proofs Go.ChangeShapes Go.Aw.Tab
set_option maxRecDepth 100000
section
variable {H : Type} {enc : TypeId × Value → H} {W : World}
theorem open_str (cs : List Value) (h : Opens enc Try.prog W 9 cs) (_ : cs.length = 1) : ∃ y : ByteArray, cs.map emb = strC y ∧ y.size ≤ 9223372036854775807 := by
  obtain ⟨s, rfl, hs⟩ := h.string Try.underlying9
  exact ⟨s, by simp [strC], hs⟩
theorem open_req (cs : List Value) (h : Opens enc Try.prog W 96 cs) (_ : cs.length = 3) : ∃ y : Req, cs.map emb = y.cells ∧ True := by
  obtain ⟨hl, hf⟩ := h.struct Try.underlying96
  obtain ⟨a, e0, _⟩ := (hf 0 _ rfl).int Try.underlying3
  obtain ⟨hl1, hf1⟩ := (hf 1 _ rfl).struct Try.underlying94
  obtain ⟨b, e1, _⟩ := (hf1 0 _ rfl).int Try.underlying3
  obtain ⟨c, e2, _⟩ := (hf1 1 _ rfl).int Try.underlying2
  rw [show Try.prog.cellsOf 96 = 3 from by kernel_rfl] at hl
  rw [show Try.prog.cellsOf _ = 1 from by kernel_rfl] at e0 e1 e2
  rw [show Try.prog.cellsOf _ = 2 from by kernel_rfl] at e1 e2
  clear hf hf1 hl1
  match cs, hl with
  | [u, v, w], _ =>
    simp at e0 e1 e2
    subst e0 e1 e2
    exact ⟨⟨a, b, c⟩, by simp [Req.cells], trivial⟩
theorem open_reqs {t : Nat} {v : Value} {cs : List Value} (ht : Try.prog.underlying t = some (.slice 96)) (h : Opens enc Try.prog W t cs) (hcs : cs = [v]) :
    ∃ l : List Req, (∀ G, SlR ⟨Try.prog, W⟩ G (fun _ => False) 3 Req.cells (emb v) l) ∧ l.length ≤ 9223372036854775807 := by
  obtain ⟨xs, h1, _, h3⟩ := h.slice (f := Req.cells) (Q := fun _ => True) ht (by kernel_rfl) (by decide) open_req hcs (fun _ => .dead) (fun _ => False)
  exact ⟨xs, fun G => h1.frame (fun _ h => h.elim), h3⟩
theorem open_strs {t : Nat} {v : Value} {cs : List Value} (ht : Try.prog.underlying t = some (.slice 9)) (h : Opens enc Try.prog W t cs) (hcs : cs = [v]) :
    ∃ l : List ByteArray, (∀ G, SlR ⟨Try.prog, W⟩ G (fun _ => False) 1 strC (emb v) l) ∧ l.length ≤ 9223372036854775807 := by
  obtain ⟨xs, h1, _, h3⟩ := h.slice (f := strC) (Q := fun y => y.size ≤ 9223372036854775807) ht (by kernel_rfl) (by decide) open_str hcs (fun _ => .dead) (fun _ => False)
  exact ⟨xs, fun G => h1.frame (fun _ h => h.elim), h3⟩
theorem open_int (cs : List Value) (h : Opens enc Try.prog W 3 cs) (_ : cs.length = 1) : ∃ y : Int, cs.map emb = intC y ∧ True := by
  obtain ⟨a, rfl, _⟩ := h.int Try.underlying3
  exact ⟨a, by simp [intC], trivial⟩
theorem open_ints {t : Nat} {v : Value} {cs : List Value} (ht : Try.prog.underlying t = some (.slice 3)) (h : Opens enc Try.prog W t cs) (hcs : cs = [v]) :
    ∃ l : List Int, (∀ G, SlR ⟨Try.prog, W⟩ G (fun _ => False) 1 intC (emb v) l) ∧ l.length ≤ 9223372036854775807 := by
  obtain ⟨xs, h1, _, h3⟩ := h.slice (f := intC) (Q := fun _ => True) ht (by kernel_rfl) (by decide) open_int hcs (fun _ => .dead) (fun _ => False)
  exact ⟨xs, fun G => h1.frame (fun _ h => h.elim), h3⟩
theorem arg_group {v : Value} {b0 : Nat} {d : DataW H} {p : List MemPlace} (hv : Value.okWide Try.prog W .any b0 24 v) (h : DataW.Trod enc Try.prog W 0 (fun _ => true) true 24 v d p) :
    ∃ (nm : ByteArray) (y : Value) (ps : List ByteArray) (dd : Int), emb v = .agg #[.string nm, y, .int .i64 dd] ∧ (∀ G, SlR ⟨Try.prog, W⟩ G (fun _ => False) 1 strC y ps) := by
  obtain ⟨cs, rfl, hc⟩ := WideShapes.okWide_struct Try.underlying24 hv
  obtain ⟨fuel, h⟩ := h
  have h : Opens enc Try.prog W 24 cs.toList := ⟨fuel, _, h⟩
  obtain ⟨hl, hf⟩ := h.struct Try.underlying24
  obtain ⟨nm, e0, _⟩ := (hf 0 _ rfl).string Try.underlying9
  have h1 := hf 1 _ rfl
  obtain ⟨dd, e2, _⟩ := (hf 2 _ rfl).int Try.underlying3
  rw [show Try.prog.cellsOf 24 = 3 from by kernel_rfl] at hl
  rw [show Try.prog.cellsOf _ = 1 from by kernel_rfl] at e0 e2 h1
  clear hf
  obtain ⟨l⟩ := cs
  match l, hl with
  | [u, y, w], _ =>
    simp at e0 e2
    subst e0 e2
    obtain ⟨ps, hp, _⟩ := open_strs (v := y) Try.underlying22 h1 rfl
    exact ⟨nm, emb y, ps, dd, by simp only [emb, renV_agg]; congr 1; apply Array.ext'; simp, hp⟩
end
end Go.Aw.S15
