/-
  Chapter 25: programs as arguments.
-/
import Derived.Test.YtmjhbococmnppaaS25A
import Derived.Test.YtmjhbococmnppaaAw14
namespace Go.Aw.S25
open Go.RowKit Go.Proofs Go.ChangeShapes Go.Aw.Tab
set_option maxRecDepth 100000
section
variable {H : Type} {enc : TypeId × Value → H} {W : World}
theorem open_lk (cs : List Value) (h : Opens enc Try.prog W 54 cs) (_ : cs.length = 8) : ∃ y : Lk, cs.map emb = y.cells ∧ True := by
  obtain ⟨hl, hf⟩ := h.struct Try.underlying54
  obtain ⟨a, e0, _⟩ := (hf 0 _ rfl).string Try.underlying9
  obtain ⟨b, e1, _⟩ := (hf 1 _ rfl).int Try.underlying3
  obtain ⟨c, e2, _⟩ := (hf 2 _ rfl).string Try.underlying9
  obtain ⟨hl1, hf1⟩ := (hf 3 _ rfl).struct Try.underlying52
  obtain ⟨d, e3, _⟩ := (hf1 0 _ rfl).int Try.underlying3
  obtain ⟨e, e4, _⟩ := (hf1 1 _ rfl).int Try.underlying2
  obtain ⟨f, e5⟩ := (hf 4 _ rfl).bool Try.underlying4
  obtain ⟨hl2, hf2⟩ := (hf 5 _ rfl).struct Try.underlying52
  obtain ⟨g, e6, _⟩ := (hf2 0 _ rfl).int Try.underlying3
  obtain ⟨i, e7, _⟩ := (hf2 1 _ rfl).int Try.underlying2
  rw [show Try.prog.cellsOf 54 = 8 from by kernel_rfl] at hl
  rw [show Try.prog.cellsOf _ = 1 from by kernel_rfl] at e0 e1 e2 e5
  rw [show Try.prog.cellsOf _ = 1 from by kernel_rfl, show Try.prog.cellsOf _ = 2 from by kernel_rfl] at e3 e4 e6 e7
  clear hf hf1 hf2 hl1 hl2
  match cs, hl with
  | [c0, c1, c2, c3, c4, c5, c6, c7], _ =>
    simp at e0 e1 e2 e3 e4 e5 e6 e7
    subst e0 e1 e2 e3 e4 e5 e6 e7
    exact ⟨⟨a, b, c, d, e, f, g, i⟩, by simp [Lk.cells], trivial⟩
def parC (x : ByteArray × Int) : List Value := [.string x.1, .int .i64 x.2]
theorem open_par (cs : List Value) (h : Opens enc Try.prog W 120 cs) (_ : cs.length = 2) : ∃ y : ByteArray × Int, cs.map emb = parC y ∧ True := by
  obtain ⟨hl, hf⟩ := h.struct Try.underlying120
  obtain ⟨a, e0, _⟩ := (hf 0 _ rfl).string Try.underlying9
  obtain ⟨b, e1, _⟩ := (hf 1 _ rfl).int Try.underlying2
  rw [show Try.prog.cellsOf 120 = 2 from by kernel_rfl] at hl
  rw [show Try.prog.cellsOf _ = 1 from by kernel_rfl] at e0 e1
  clear hf
  match cs, hl with
  | [c0, c1], _ =>
    simp at e0 e1
    subst e0 e1
    exact ⟨(a, b), by simp [parC], trivial⟩
theorem open_lks {t : Nat} {v : Value} {cs : List Value} (ht : Try.prog.underlying t = some (.slice 54)) (h : Opens enc Try.prog W t cs) (hcs : cs = [v]) :
    ∃ l : List Lk, (∀ G, SlR ⟨Try.prog, W⟩ G (fun _ => False) 8 Lk.cells (emb v) l) ∧ l.length ≤ 9223372036854775807 := by
  obtain ⟨xs, h1, _, h3⟩ := h.slice (f := Lk.cells) (Q := fun _ => True) ht (by kernel_rfl) (by decide) open_lk hcs (fun _ => .dead) (fun _ => False)
  exact ⟨xs, fun G => h1.frame (fun _ h => h.elim), h3⟩
theorem open_pars {t : Nat} {v : Value} {cs : List Value} (ht : Try.prog.underlying t = some (.slice 120)) (h : Opens enc Try.prog W t cs) (hcs : cs = [v]) : (emb v).oneCell' = true := by
  obtain ⟨xs, h1, _, h3⟩ := h.slice (f := parC) (Q := fun _ => True) ht (by kernel_rfl) (by decide) open_par hcs (fun _ => .dead) (fun _ => False)
  exact h1.one
structure NdOk (W : World) (d : Nd) : Prop where
  is : ∀ G, SlR ⟨Try.prog, W⟩ G (fun _ => False) 8 Lk.cells d.ins d.lks
  ib : d.lks.length ≤ 9223372036854775807
  po : d.ps.oneCell' = true
theorem open_nd (cs : List Value) (h : Opens enc Try.prog W 47 cs) (_ : cs.length = 4) : ∃ y : Nd, cs.map emb = y.cells ∧ NdOk W y := by
  obtain ⟨hl, hf⟩ := h.struct Try.underlying47
  obtain ⟨a, e0, _⟩ := (hf 0 _ rfl).string Try.underlying9
  obtain ⟨b, e1, _⟩ := (hf 1 _ rfl).string Try.underlying9
  have h2 := hf 2 _ rfl
  have h3 := hf 3 _ rfl
  rw [show Try.prog.cellsOf 47 = 4 from by kernel_rfl] at hl
  rw [show Try.prog.cellsOf _ = 1 from by kernel_rfl] at e0 e1 h2 h3
  clear hf
  match cs, hl with
  | [c0, c1, c2, c3], _ =>
    simp at e0 e1
    subst e0 e1
    have h4 := open_pars (v := c2) Try.underlying44 h2 rfl
    obtain ⟨ks, h5, h6⟩ := open_lks (v := c3) Try.underlying45 h3 rfl
    exact ⟨⟨a, b, emb c2, emb c3, ks⟩, by simp [Nd.cells], ⟨h5, h6, h4⟩⟩
theorem open_dr (cs : List Value) (h : Opens enc Try.prog W 56 cs) (_ : cs.length = 10) : ∃ y : Dr, cs.map emb = y.cells ∧ True := by
  obtain ⟨hl, hf⟩ := h.struct Try.underlying56
  obtain ⟨a, e0, _⟩ := (hf 0 _ rfl).string Try.underlying9
  obtain ⟨b, e1, _⟩ := (hf 1 _ rfl).int Try.underlying3
  have h2 := hf 2 _ rfl
  rw [show Try.prog.cellsOf 56 = 10 from by kernel_rfl] at hl
  rw [show Try.prog.cellsOf _ = 1 from by kernel_rfl] at e0 e1
  rw [show Try.prog.cellsOf _ = 8 from by kernel_rfl] at h2
  clear hf
  match cs, hl with
  | [c0, c1, c2, c3, c4, c5, c6, c7, c8, c9], _ =>
    obtain ⟨y, hy, _⟩ := open_lk _ h2 (by simp)
    simp at e0 e1
    subst e0 e1
    simp [Lk.cells] at hy
    exact ⟨⟨a, b, y⟩, by simp [Dr.cells, hy], trivial⟩
theorem arg_pg {v : Value} {b0 : Nat} {d : DataW H} {pl : List MemPlace} (hv : Value.okWide Try.prog W .any b0 25 v) (h : DataW.Trod enc Try.prog W 0 (fun _ => true) true 25 v d pl) :
    ∃ q : Pg, emb v = q.val ∧ ∀ G, PrR G W (fun _ => False) q := by
  obtain ⟨cs, rfl, hc⟩ := WideShapes.okWide_struct Try.underlying25 hv
  obtain ⟨fuel, h⟩ := h
  have h : Opens enc Try.prog W 25 cs.toList := ⟨fuel, _, h⟩
  obtain ⟨hl, hf⟩ := h.struct Try.underlying25
  obtain ⟨nm, e0, _⟩ := (hf 0 _ rfl).string Try.underlying9
  obtain ⟨per, e1, _⟩ := (hf 1 _ rfl).int Try.underlying3
  have h2 := hf 2 _ rfl
  have h3 := hf 3 _ rfl
  rw [show Try.prog.cellsOf 25 = 4 from by kernel_rfl] at hl
  rw [show Try.prog.cellsOf _ = 1 from by kernel_rfl] at e0 e1 h2 h3
  clear hf
  obtain ⟨l⟩ := cs
  match l, hl with
  | [c0, c1, c2, c3], _ =>
    simp at e0 e1
    subst e0 e1
    obtain ⟨xs, g1, g2, g3⟩ := Opens.slice (f := Nd.cells) (Q := NdOk W) (v := c2) Try.underlying22 (by kernel_rfl) (by decide) open_nd h2 rfl (fun _ => .dead) (fun _ => False)
    obtain ⟨ys, k1, _, k3⟩ := Opens.slice (f := Dr.cells) (Q := fun _ => True) (v := c3) Try.underlying23 (by kernel_rfl) (by decide) open_dr h3 rfl (fun _ => .dead) (fun _ => False)
    refine ⟨⟨nm, per, emb c2, emb c3, xs, ys⟩, by simp only [emb, renV_agg, Pg.val]; congr 1; apply Array.ext'; simp, fun G => ⟨g1.frame (fun _ h => h.elim), fun d hd => (g2 d hd).is G, k1.frame (fun _ h => h.elim), g3, fun d hd => (g2 d hd).ib, k3, fun d hd => (g2 d hd).po⟩⟩
theorem open_int (cs : List Value) (h : Opens enc Try.prog W 3 cs) (_ : cs.length = 1) : ∃ y : Int, cs.map emb = intC y ∧ (-9223372036854775808 ≤ y ∧ y ≤ 9223372036854775807) := by
  obtain ⟨a, rfl, hw⟩ := h.int Try.underlying3
  exact ⟨a, by simp [intC], wf64 hw⟩
theorem open_ints {t : Nat} {v : Value} {cs : List Value} (ht : Try.prog.underlying t = some (.slice 3)) (h : Opens enc Try.prog W t cs) (hcs : cs = [v]) :
    ∃ l : List Int, (∀ G, SlR ⟨Try.prog, W⟩ G (fun _ => False) 1 intC (emb v) l) ∧ l.length ≤ 9223372036854775807 ∧ ∀ x ∈ l, -9223372036854775808 ≤ x ∧ x ≤ 9223372036854775807 := by
  obtain ⟨xs, h1, h2, h3⟩ := h.slice (f := intC) (Q := fun y => -9223372036854775808 ≤ y ∧ y ≤ 9223372036854775807) ht (by kernel_rfl) (by decide) open_int hcs (fun _ => .dead) (fun _ => False)
  exact ⟨xs, fun G => h1.frame (fun _ h => h.elim), h3, h2⟩
end
end Go.Aw.S25
