/-
  Chapter 50: data, small calls.
-/
import Derived.Test.YtfeclhjbkphjdaaAwTab
import Derived.Test.YtfeclhjbkphjdaaAw17
import Derived.Test.YtfeclhjbkphjdaaAw19
namespace Go.Aw.S50
open Go.RowKit Go.Proofs Go.Aw.Tab
set_option linter.unusedSimpArgs false
set_option linter.unusedVariables false
set_option maxRecDepth 10000
set_option maxHeartbeats 1000000
set_option pp.deepTerms false
set_option pp.deepTerms.threshold 4
set_option pp.maxSteps 1500
/-- An answer (type 33). -/
structure Ans where
  boot : Int
  inv : Int
  code : Int
  data : ByteArray
  deriving DecidableEq
/-- A request (type 35). -/
structure Ask where
  boot : Int
  inv : Int
  data : ByteArray
  deriving DecidableEq
/-- A call (type 37). -/
structure Opn where
  kind : Int
  data : ByteArray
  ans : Ans
  client : Int
  ask : Ask
  code : Int
  deriving DecidableEq
instance : Inhabited Ans := ⟨⟨0, 0, 0, ⟨#[]⟩⟩⟩
instance : Inhabited Ask := ⟨⟨0, 0, ⟨#[]⟩⟩⟩
instance : Inhabited Opn := ⟨⟨0, ⟨#[]⟩, default, 0, default, 0⟩⟩
def Ans.cells (a : Ans) : List Value := [.int .i64 a.boot, .int .i64 a.inv, .int .i64 a.code, .string a.data]
def Ask.cells (a : Ask) : List Value := [.int .i64 a.boot, .int .i64 a.inv, .string a.data]
def Opn.cells (o : Opn) : List Value := [.int .i64 o.kind, .string o.data, .int .i64 o.ans.boot, .int .i64 o.ans.inv, .int .i64 o.ans.code, .string o.ans.data, .int .i64 o.client, .int .i64 o.ask.boot, .int .i64 o.ask.inv, .string o.ask.data, .int .i64 o.code]
attribute [local simp] Ans.cells Ask.cells Opn.cells
variable {w0 : World} {n : Nat} {H : Heap} {K : Value → Nat → Heap → Prop} {pv : Value} {D E F : Nat → Prop} {l : List Opn}
theorem in_ok {x a b : Int} (hk : K (.bool (decide (a ≤ x ∧ x ≤ b))) n H) : ACall ⟨Try.prog, w0⟩ 34 [.int .i64 x, .int .i64 a, .int .i64 b] K n H := by
  refine ACall.res (fun K' hr => ?_) (by simp) hk
  refine ACall.run Try.func34 rfl Try.ntmps34 Try.results34 (by simp) fun J0 => ?_
  simp (disch := omega) [-hset_if, -Bool.decide_and, hset_ne]
  refine gif_dec (fun h1 => ?_) (fun h1 => ?_)
  · simp (disch := omega) [-hset_if, -Bool.decide_and, hset_ne]
    exact hr.fin (by simp [h1]) (by omega) (fun i hi => by simp (disch := omega) only [hset_ne])
  · simp (disch := omega) [-hset_if, -Bool.decide_and, hset_ne]
    exact hr.fin (by simp [h1]) (by omega) (fun i hi => by simp (disch := omega) only [hset_ne])
/-- Calls as few and small as the statements ask. -/
def smallO (o : Opn) : Bool := decide (o.data.size ≤ 500 ∧ o.ans.data.size ≤ 500 ∧ o.ask.data.size ≤ 500)
def smallB (l : List Opn) : Bool := decide (l.length ≤ 80) && l.all smallO
theorem small_ok (hs : SlR ⟨Try.prog, w0⟩ H D 11 Opn.cells pv l) (hk : K (.bool (smallB l)) n H) : ACall ⟨Try.prog, w0⟩ 10 [pv] K n H := by
  refine ACall.res (fun K' hr => ?_) (by simp) hk
  unfold smallB at hr
  refine ACall.run Try.func10 rfl Try.ntmps10 Try.results10 (by simp) fun J0 => ?_
  simp (disch := omega) [-hset_if, -Bool.decide_and, hset_ne, hs.lenK]
  refine cif_dec (fun h0 => ?_) (fun h0 => ?_)
  · simp (disch := omega) [-hset_if, -Bool.decide_and, hset_ne]
    exact hr.fin (by simp; omega) (by omega) (fun i hi => by simp (disch := omega) only [hset_ne])
  rw [decide_eq_true (by omega), Bool.true_and] at hr
  simp (disch := omega) [-hset_if, -Bool.decide_and, hset_ne]
  refine AW.while (σ := Nat) (fun j => l.length - j) (fun j => [(0, pv), (3, .int .i64 (j : Int))])
    (fun j n1 H1 => n1 = n ∧ H1 = H ∧ j ≤ l.length ∧ Res n H K' (.bool ((l.drop j).all smallO))) 0 ?_ ?_ ?_
  · simp (disch := omega) [-hset_if, -Bool.decide_and, hset_ne]
  · exact ⟨rfl, rfl, by omega, by simpa using hr⟩
  clear hr
  rintro j n1 H1 ⟨rfl, rfl, g1, hr⟩
  simp (disch := omega) [-hset_if, -Bool.decide_and, hset_ne, hs.lenK]
  refine cif_dec (fun h => ?_) (fun h => ?_)
  · rw [drop_at (by omega), List.all_cons] at hr
    simp (disch := omega) [-hset_if, -Bool.decide_and, hset_ne, hs.ix elemS22, hs.load shp9, Addr.add_add]
    refine gif_dec (fun h1 => ?_) (fun h1 => ?_)
    · rw [show smallO (at_ l (j : Int)) = false from decide_eq_false (by omega)] at hr
      simp (disch := omega) [-hset_if, -Bool.decide_and, hset_ne]
      exact hr.fin rfl (by omega) (fun i hi => by simp (disch := omega) only [hset_ne])
    simp (disch := omega) [-hset_if, -Bool.decide_and, hset_ne, hs.ix elemS22, hs.load shp9, Addr.add_add]
    refine gif_dec (fun h2 => ?_) (fun h2 => ?_)
    · rw [show smallO (at_ l (j : Int)) = false from decide_eq_false (by omega)] at hr
      simp (disch := omega) [-hset_if, -Bool.decide_and, hset_ne]
      exact hr.fin rfl (by omega) (fun i hi => by simp (disch := omega) only [hset_ne])
    simp (disch := omega) [-hset_if, -Bool.decide_and, hset_ne, hs.ix elemS22, hs.load shp9, Addr.add_add]
    refine cif_dec (fun h3 => ?_) (fun h3 => ?_)
    · rw [show smallO (at_ l (j : Int)) = false from decide_eq_false (by omega)] at hr
      simp (disch := omega) [-hset_if, -Bool.decide_and, hset_ne]
      exact hr.fin rfl (by omega) (fun i hi => by simp (disch := omega) only [hset_ne])
    rw [show smallO (at_ l (j : Int)) = true from decide_eq_true (by omega), Bool.true_and] at hr
    simp (disch := omega) [-hset_if, -Bool.decide_and, hset_ne]
    exact Next.mk (j + 1) (by first | omega | (dsimp only; omega)) (by simp (disch := omega) [-hset_if, -Bool.decide_and, hset_ne]) ⟨rfl, rfl, by omega, hr⟩
  · rw [List.drop_of_length_le (by omega)] at hr
    simp (disch := omega) [-hset_if, -Bool.decide_and, hset_ne]
    exact hr.fin (by simp) (by omega) (fun i hi => by simp (disch := omega) only [hset_ne])
end Go.Aw.S50
