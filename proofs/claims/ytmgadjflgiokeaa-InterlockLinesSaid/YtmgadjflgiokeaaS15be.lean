/-
  Chapter 15: lines as arguments.
-/
import Derived.Test.YtmgadjflgiokeaaS15p
import Derived.Test.YtmgadjflgiokeaaS15j
namespace Go.Aw.S15
open Go.RowKit Go.Proofs Go.ChangeShapes Go.Aw.Tab
set_option maxRecDepth 100000
section
variable {H : Type} {enc : TypeId × Value → H} {W : World}
theorem isSlice {t e : Nat} {v : Value} (ht : Try.prog.underlying t = some (.slice e)) (h : Opens enc Try.prog W t [v]) : ∃ A l c, v = .slice A l c := by
  obtain ⟨fuel, x, h⟩ := h
  rcases Go.Deep.open_slice ht h with ⟨h1, _⟩ | ⟨a, len, cap, m, n, Df, Pl, h1, _⟩
  · simp at h1; exact ⟨_, _, _, h1⟩
  · simp at h1; exact ⟨_, _, _, h1⟩
theorem open_tok (cs : List Value) (h : Opens enc Try.prog W 49 cs) (_ : cs.length = 4) : ∃ y : Tok, cs.map emb = y.cells ∧ int64 y.num := by
  obtain ⟨hl, hf⟩ := h.struct Try.underlying49
  obtain ⟨a, e0, _⟩ := (hf 0 _ rfl).int Try.underlying3
  obtain ⟨b, e1, _⟩ := (hf 1 _ rfl).string Try.underlying9
  obtain ⟨c, e2, wc⟩ := (hf 2 _ rfl).int Try.underlying2
  obtain ⟨d, e3, _⟩ := (hf 3 _ rfl).int Try.underlying3
  rw [show Try.prog.cellsOf 49 = 4 from by kernel_rfl] at hl
  rw [show Try.prog.cellsOf _ = 1 from by kernel_rfl] at e0 e1 e2 e3
  clear hf
  match cs, hl with
  | [u, v, w, x], _ =>
    simp at e0 e1 e2 e3
    subst e0 e1 e2 e3
    have := wf64 wc
    exact ⟨⟨a, b, c, d⟩, by simp [Tok.cells], by unfold int64; simp only; omega⟩
theorem open_toks {t : Nat} {v : Value} {cs : List Value} (ht : Try.prog.underlying t = some (.slice 49)) (h : Opens enc Try.prog W t cs) (hcs : cs = [v]) :
    ∃ l : List Tok, (∀ G, SlR ⟨Try.prog, W⟩ G (fun _ => False) 4 Tok.cells (emb v) l) ∧ (∀ x ∈ l, int64 x.num) ∧ l.length ≤ 9223372036854775807 := by
  obtain ⟨xs, h1, h2, h3⟩ := h.slice (f := Tok.cells) (Q := fun y => int64 y.num) ht (by kernel_rfl) (by decide) open_tok hcs (fun _ => .dead) (fun _ => False)
  exact ⟨xs, fun G => h1.frame (fun _ h => h.elim), h2, h3⟩
theorem emb_sl (A : Option Addr) (l c : Nat) : ∃ B, emb (.slice A l c) = .slice B l c := by
  cases A with
  | none => exact ⟨none, by simp⟩
  | some a => exact ⟨_, emb_slice a l c⟩
theorem arg_line {v : Value} {b0 : Nat} {d : DataW H} {p : List MemPlace} (hv : Value.okWide Try.prog W .any b0 47 v) (h : DataW.Trod enc Try.prog W 0 (fun _ => true) true 47 v d p) :
    ∃ (y : Value) (ts : List Tok) (hd : Bool) (A : Option Addr) (l c : Nat) (lat : Int), emb v = .agg #[y, .bool hd, .slice A l c, .int .i64 lat] ∧ (∀ G, SlR ⟨Try.prog, W⟩ G (fun _ => False) 4 Tok.cells y ts) ∧ (∀ x ∈ ts, int64 x.num) := by
  obtain ⟨cs, rfl, hc⟩ := WideShapes.okWide_struct Try.underlying47 hv
  obtain ⟨fuel, h⟩ := h
  have h : Opens enc Try.prog W 47 cs.toList := ⟨fuel, _, h⟩
  obtain ⟨hl, hf⟩ := h.struct Try.underlying47
  have h0 := hf 0 _ rfl
  obtain ⟨hd, e1⟩ := (hf 1 _ rfl).bool Try.underlying4
  have h2 := hf 2 _ rfl
  obtain ⟨lat, e3, _⟩ := (hf 3 _ rfl).int Try.underlying3
  rw [show Try.prog.cellsOf 47 = 4 from by kernel_rfl] at hl
  rw [show Try.prog.cellsOf _ = 1 from by kernel_rfl] at e1 e3 h0 h2
  clear hf
  obtain ⟨l⟩ := cs
  match l, hl with
  | [u, y, w, x], _ =>
    simp at e1 e3
    subst e1 e3
    obtain ⟨ts, ht, hq, _⟩ := open_toks (v := u) Try.underlying44 h0 rfl
    obtain ⟨A, l, c, rfl⟩ := isSlice (v := w) Try.underlying45 h2
    obtain ⟨B, hB⟩ := emb_sl A l c
    refine ⟨emb u, ts, hd, B, l, c, lat, ?_, ht, hq⟩
    rw [← hB]
    simp only [emb, renV_agg]; congr 1; apply Array.ext'; simp
end
end Go.Aw.S15
