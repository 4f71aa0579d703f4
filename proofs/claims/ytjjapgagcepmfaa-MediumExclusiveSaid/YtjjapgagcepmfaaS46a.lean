/-
  Chapter 46: the data, and how they are read.
-/
import Derived.Test.YtjjapgagcepmfaaAwTab
import Derived.Test.YtjjapgagcepmfaaAw14
namespace Go.Aw.S46
open Go.RowKit Go.Proofs Go.ChangeShapes Go.Aw.Tab

theorem mixed : Try.prog.follows .mixedOrders = true := by kernel_rfl
structure Frame where
  kind : Int
  dst : Int
  src : Int
  data : ByteArray
  deriving Inhabited, DecidableEq
def Frame.cells (f : Frame) : List Value := [.int .i64 f.kind, .int .i64 f.dst, .int .i64 f.src, .string f.data]
structure Heard where
  what : Int
  frame : Frame
  deriving Inhabited, DecidableEq
def Heard.cells (h : Heard) : List Value := [.int .i64 h.what, .int .i64 h.frame.kind, .int .i64 h.frame.dst, .int .i64 h.frame.src, .string h.frame.data]
/-- A slot: the slice's value, what it shows, whether the slot is damaged. -/
structure Slot where
  val : Value
  sent : List Frame
  damaged : Bool
instance : Inhabited Slot := ⟨⟨.nilFunc, [], false⟩⟩
def Slot.cells (s : Slot) : List Value := [s.val, .bool s.damaged]

section
variable {H : Type} {enc : TypeId × Value → H} {W : World}
theorem open_frame (cs : List Value) (h : Opens enc Try.prog W 25 cs) (_ : cs.length = 4) : ∃ y : Frame, cs.map emb = y.cells ∧ True := by
  obtain ⟨hl, hf⟩ := h.struct Try.underlying25
  obtain ⟨n0, e0, _⟩ := (hf 0 _ rfl).int Try.underlying3
  obtain ⟨n1, e1, _⟩ := (hf 1 _ rfl).int Try.underlying3
  obtain ⟨n2, e2, _⟩ := (hf 2 _ rfl).int Try.underlying3
  obtain ⟨n3, e3, _⟩ := (hf 3 _ rfl).string Try.underlying9
  rw [show Try.prog.cellsOf 25 = 4 from by kernel_rfl] at hl
  rw [show Try.prog.cellsOf _ = 1 from by kernel_rfl] at e0 e1 e2 e3
  match cs, hl with
  | [a, b, c, d], _ =>
    simp at e0 e1 e2 e3
    exact ⟨⟨n0, n1, n2, n3⟩, by simp [Frame.cells, e0, e1, e2, e3], trivial⟩
theorem open_frames {t : Nat} {v : Value} {cs : List Value} (ht : Try.prog.underlying t = some (.slice 25)) (h : Opens enc Try.prog W t cs) (hcs : cs = [v]) (G : Heap) (D : Nat → Prop) :
    ∃ fs : List Frame, SlR ⟨Try.prog, W⟩ G D 4 Frame.cells (emb v) fs ∧ fs.length ≤ 9223372036854775807 := by
  obtain ⟨xs, h1, _, h2⟩ := h.slice (f := Frame.cells) (Q := fun _ => True) ht (by kernel_rfl) (by decide) open_frame hcs G D
  exact ⟨xs, h1, h2⟩
end
/-! ### Resolve -/
def resolve (fs : List Frame) (d : Bool) : Heard := if fs.length = 0 then ⟨0, ⟨0, 0, 0, ⟨#[]⟩⟩⟩ else if fs.length = 1 ∧ d = false then ⟨1, at_ fs 0⟩ else ⟨2, ⟨0, 0, 0, ⟨#[]⟩⟩⟩
attribute [local simp] Frame.cells Heard.cells
set_option maxRecDepth 10000
set_option linter.unusedSimpArgs false
set_option pp.deepTerms false
set_option pp.deepTerms.threshold 4
set_option pp.maxSteps 1500
variable {w0 : World} {n : Nat} {H : Heap} {K : Value → Nat → Heap → Prop}
theorem resolve_ok {D : Nat → Prop} {v : Value} {fs : List Frame} {d : Bool} (hs : SlR ⟨Try.prog, w0⟩ H D 4 Frame.cells v fs) (hD : ∀ i, D i → i < n)
    (hk : ∀ n' H', n ≤ n' → (∀ i, i < n → H' i = H i) → K (.agg (resolve fs d).cells.toArray) n' H') : ACall ⟨Try.prog, w0⟩ 10 [v, .bool d] K n H := by
  refine ACall.run Try.func10 rfl Try.ntmps10 Try.results10 (by simp) fun J0 => ?_
  simp (disch := omega) [hs.lenK]
  refine cif_beq (fun h => ?_) (fun h => ?_)
  · simp (disch := omega)
    refine Fin_id ?_
    simpa [resolve, show fs.length = 0 by omega] using hk _ _ (by omega) (fun i hi => by simp (disch := omega) only [hset_ne])
  · simp (disch := omega) [hs.lenK]
    refine gif_beq (fun h2 => ?_) (fun h2 => ?_)
    · simp (disch := omega) [hs.lenK]
      refine cif_var (fun hd => ?_) (fun hd => ?_)
      · simp (disch := omega)
        refine Fin_id ?_
        simpa [resolve, show fs.length = 1 by omega, hd] using hk _ _ (by omega) (fun i hi => by simp (disch := omega) only [hset_ne])
      · simp (disch := omega) [hs.ix elemS22, hs.fresh0 hD, hs.load0 shp25]
        refine Fin_id ?_
        simpa [resolve, show fs.length = 1 by omega, hd] using hk _ _ (by omega) (fun i hi => by simp (disch := omega) only [hset_ne])
    · simp (disch := omega)
      refine Fin_id ?_
      simpa [resolve, show fs.length ≠ 1 by omega, show fs.length ≠ 0 by omega] using hk _ _ (by omega) (fun i hi => by simp (disch := omega) only [hset_ne])
theorem refResolve_ok {D : Nat → Prop} {v : Value} {fs : List Frame} {d : Bool} (hs : SlR ⟨Try.prog, w0⟩ H D 4 Frame.cells v fs) (hD : ∀ i, D i → i < n)
    (hk : ∀ n' H', n ≤ n' → (∀ i, i < n → H' i = H i) → K (.agg (resolve fs d).cells.toArray) n' H') : ACall ⟨Try.prog, w0⟩ 11 [v, .bool d] K n H := by
  refine ACall.run Try.func11 rfl Try.ntmps11 Try.results11 (by simp) fun J0 => ?_
  simp (disch := omega) [hs.lenK]
  refine cif_beq (fun h => ?_) (fun h => ?_)
  · simp (disch := omega)
    refine Fin_id ?_
    simpa [resolve, show fs.length = 0 by omega] using hk _ _ (by omega) (fun i hi => by simp (disch := omega) only [hset_ne])
  · simp (disch := omega) [hs.lenK]
    refine gif_beq (fun h2 => ?_) (fun h2 => ?_)
    · simp (disch := omega)
      refine cif_var (fun hd => ?_) (fun hd => ?_)
      · simp (disch := omega)
        refine Fin_id ?_
        simpa [resolve, show fs.length = 1 by omega, hd] using hk _ _ (by omega) (fun i hi => by simp (disch := omega) only [hset_ne])
      · simp (disch := omega) [hs.ix elemS22, hs.fresh0 hD, hs.load0 shp25]
        refine Fin_id ?_
        simpa [resolve, show fs.length = 1 by omega, hd] using hk _ _ (by omega) (fun i hi => by simp (disch := omega) only [hset_ne])
    · simp (disch := omega)
      refine Fin_id ?_
      simpa [resolve, show fs.length ≠ 1 by omega, show fs.length ≠ 0 by omega] using hk _ _ (by omega) (fun i hi => by simp (disch := omega) only [hset_ne])
end Go.Aw.S46
