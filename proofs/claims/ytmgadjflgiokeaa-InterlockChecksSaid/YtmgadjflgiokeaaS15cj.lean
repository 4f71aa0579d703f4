/-
  Chapter 15: lists of points and of groups as arguments.
-/
import Derived.Test.YtmgadjflgiokeaaS15p
import Derived.Test.YtmgadjflgiokeaaS15ca
namespace Go.Aw.S15
open Go.RowKit Go.Proofs Go.ChangeShapes Go.Aw.Tab
set_option maxRecDepth 100000
section
variable {H : Type} {enc : TypeId × Value → H} {W : World}
/-- A group's points. -/
def GrOk (W : World) (g : Gr) : Prop := (∀ G, SlR ⟨Try.prog, W⟩ G (fun _ => False) 1 strC g.pv g.ps) ∧ g.ps.length ≤ 9223372036854775807
theorem open_gr (cs : List Value) (h : Opens enc Try.prog W 24 cs) (_ : cs.length = 3) : ∃ y : Gr, cs.map emb = y.cells ∧ GrOk W y := by
  obtain ⟨hl, hf⟩ := h.struct Try.underlying24
  obtain ⟨nm, e0, _⟩ := (hf 0 _ rfl).string Try.underlying9
  have h1 := hf 1 _ rfl
  obtain ⟨dd, e2, _⟩ := (hf 2 _ rfl).int Try.underlying3
  rw [show Try.prog.cellsOf 24 = 3 from by kernel_rfl] at hl
  rw [show Try.prog.cellsOf _ = 1 from by kernel_rfl] at e0 e2 h1
  clear hf
  match cs, hl with
  | [u, y, w], _ =>
    simp at e0 e2
    subst e0 e2
    obtain ⟨ps, hp, hb⟩ := open_strs (v := y) Try.underlying22 h1 rfl
    exact ⟨⟨nm, emb y, ps, dd⟩, by simp [Gr.cells], hp, hb⟩
theorem open_grs {t : Nat} {v : Value} {cs : List Value} (ht : Try.prog.underlying t = some (.slice 24)) (h : Opens enc Try.prog W t cs) (hcs : cs = [v]) :
    ∃ l : List Gr, (∀ G, SlR ⟨Try.prog, W⟩ G (fun _ => False) 3 Gr.cells (emb v) l) ∧ (∀ x ∈ l, GrOk W x) ∧ l.length ≤ 9223372036854775807 := by
  obtain ⟨xs, h1, h2, h3⟩ := h.slice (f := Gr.cells) (Q := GrOk W) ht (by kernel_rfl) (by decide) open_gr hcs (fun _ => .dead) (fun _ => False)
  exact ⟨xs, fun G => h1.frame (fun _ h => h.elim), h2, h3⟩
theorem open_pt (cs : List Value) (h : Opens enc Try.prog W 100 cs) (_ : cs.length = 12) : ∃ y : Pt, cs.map emb = y.cells ∧ y.sv.oneCell' = true := by
  obtain ⟨hl, hf⟩ := h.struct Try.underlying100
  obtain ⟨nm, e0, _⟩ := (hf 0 _ rfl).string Try.underlying9
  obtain ⟨a1, e1, _⟩ := (hf 1 _ rfl).int Try.underlying3
  obtain ⟨a2, e2, _⟩ := (hf 2 _ rfl).int Try.underlying3
  obtain ⟨un, e3, _⟩ := (hf 3 _ rfl).string Try.underlying9
  obtain ⟨a4, e4, _⟩ := (hf 4 _ rfl).int Try.underlying2
  obtain ⟨a5, e5, _⟩ := (hf 5 _ rfl).int Try.underlying2
  obtain ⟨a6, e6, _⟩ := (hf 6 _ rfl).int Try.underlying2
  have h7 := hf 7 _ rfl
  obtain ⟨hl1, hf1⟩ := (hf 8 _ rfl).struct Try.underlying94
  obtain ⟨a8, e8, _⟩ := (hf1 0 _ rfl).int Try.underlying3
  obtain ⟨a9, e9, _⟩ := (hf1 1 _ rfl).int Try.underlying2
  obtain ⟨a10, e10, _⟩ := (hf 9 _ rfl).int Try.underlying3
  obtain ⟨a11, e11, _⟩ := (hf 10 _ rfl).int Try.underlying3
  rw [show Try.prog.cellsOf 100 = 12 from by kernel_rfl] at hl
  rw [show Try.prog.cellsOf _ = 1 from by kernel_rfl] at e0 e1 e2 e3 e4 e5 e6 h7 e8 e9 e10 e11
  rw [show Try.prog.cellsOf _ = 2 from by kernel_rfl] at e8 e9
  clear hf hf1 hl1
  match cs, hl with
  | [v0, v1, v2, v3, v4, v5, v6, v7, v8, v9, v10, v11], _ =>
    simp at e0 e1 e2 e3 e4 e5 e6 e8 e9 e10 e11
    subst e0 e1 e2 e3 e4 e5 e6 e8 e9 e10 e11
    obtain ⟨ps, hp, hb⟩ := open_strs (v := v7) Try.underlying22 h7 rfl
    exact ⟨⟨nm, a1, a2, un, a4, a5, a6, emb v7, a8, a9, a10, a11⟩, by simp [Pt.cells], (hp (fun _ => .dead)).one⟩
theorem open_pts {t : Nat} {v : Value} {cs : List Value} (ht : Try.prog.underlying t = some (.slice 100)) (h : Opens enc Try.prog W t cs) (hcs : cs = [v]) :
    ∃ l : List Pt, (∀ G, SlR ⟨Try.prog, W⟩ G (fun _ => False) 12 Pt.cells (emb v) l) ∧ (∀ x ∈ l, x.sv.oneCell' = true) ∧ l.length ≤ 9223372036854775807 := by
  obtain ⟨xs, h1, h2, h3⟩ := h.slice (f := Pt.cells) (Q := fun y => y.sv.oneCell' = true) ht (by kernel_rfl) (by decide) open_pt hcs (fun _ => .dead) (fun _ => False)
  exact ⟨xs, fun G => h1.frame (fun _ h => h.elim), h2, h3⟩
end
end Go.Aw.S15
