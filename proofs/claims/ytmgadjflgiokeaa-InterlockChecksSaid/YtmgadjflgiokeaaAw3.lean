/-
  The abstract machine, part 3: the operations.
-/
import Derived.Test.YtmgadjflgiokeaaAw2
import Derived.Laws.Append
namespace Go.Aw
open Go.RowKit

def optK {α : Type} (o : Option α) (k : α → Prop) : Prop := match o with | some v => k v | none => False
@[simp] theorem optK_some {α : Type} (v : α) (k : α → Prop) : optK (some v) k = k v := nr rfl
@[simp] theorem optK_none {α : Type} (k : α → Prop) : optK none k = False := nr rfl
theorem optK_ite {α : Type} (c : Prop) [Decidable c] (v : α) (k : α → Prop) : optK (if c then some v else none) k = (c ∧ k v) := by
  split <;> simp [*]
theorem optK_ex {α : Type} {o : Option α} {k : α → Prop} (h : optK o k) : ∃ v, o = some v ∧ k v := by
  cases o with
  | none => exact h.elim
  | some v => exact ⟨v, rfl, h⟩

def asB : Value → Option Bool
  | .bool b => some b
  | _ => none
def asA : Value → Option Addr
  | .pointer (some a) => some a
  | _ => none
def asI : Value → Option (IntKind × Int)
  | .int k n => some (k, n)
  | _ => none
theorem asB_some {v : Value} {b : Bool} (h : asB v = some b) : v = .bool b := by
  cases v <;> simp_all [asB]
theorem asA_some {v : Value} {a : Addr} (h : asA v = some a) : v = .pointer (some a) := by
  cases v with
  | pointer p => cases p <;> simp_all [asA]
  | _ => simp_all [asA]
theorem asI_some {v : Value} {k : IntKind} {n : Int} (h : asI v = some (k, n)) : v = .int k n := by
  cases v <;> simp_all [asI]

/-! ### Types -/
def zeroA (P : Program) (t : TypeId) : Option (List Value) :=
  match P.info? t with
  | some i => match i.zero with
    | some z => if z.cells.toList.all flat then some z.cells.toList else none
    | none => none
  | none => none
def fld (P : Program) (s f : Nat) : Option Nat :=
  match P.underlying s with
  | some (.struct fs) => match fs[f]? with
    | some x => match P.info? x.type with
      | some i => if i.size = 0 then none else some x.offset
      | none => none
    | none => none
  | _ => none
/-- A slice type's element's size and bytes. -/
def elemS (P : Program) (t : TypeId) : Option (TypeId × Nat × Nat) :=
  match P.underlying t with
  | some (.slice e) => match P.info? e with
    | some i => some (e, i.size, i.bytes)
    | none => none
  | _ => none
def elemR (P : Program) (t : TypeId) : Option (Nat × Nat) :=
  match P.underlying t with
  | some (.array n e) => match P.info? e with
    | some i => some (n, i.size)
    | none => none
  | _ => none
inductive TK where
  | bool | int | string | slice | map | func | pointer | array (n : Nat) | other
def tk (P : Program) (t : TypeId) : TK :=
  match P.underlying t with
  | some .bool => .bool
  | some (.int _) => .int
  | some .string => .string
  | some (.slice _) => .slice
  | some (.map _ _) => .map
  | some (.func _ _ _) => .func
  | some (.pointer _) => .pointer
  | some (.array n _) => .array n
  | _ => .other
def entB (P : Program) (f : FuncId) : Bool :=
  match P.funcs[f]? with
  | some fn => !(fn.name == "runtime.NumGoroutine") && fn.body.isSome
  | none => false

/-! ### What is left to show of one operation -/
def OpOk (X : Cx) (o : Oper) (a : Act) (w : World) (n : Nat) (J : Nat → Nat × Nat) (k : Value → Nat → Heap → Prop) : Prop :=
  ∀ (next : Act → World → Prop) (Q : Exit → Act → World → Prop),
    (∀ n' J' H' w' v, St X.C n' J' H' w' → n ≤ n' → (∀ i, i < n → J' i = J i) → Und n' v → k v n' H' → next (a.put o.dst (ren J' v)) w') → o.wp X.C.P a w next Q
section
variable {X : Cx} {o : Oper} {a : Act} {w : World} {n : Nat} {J : Nat → Nat × Nat} {H : Heap} {k : Value → Nat → Heap → Prop}
theorem OpOk.run {v : Value} {n' : Nat} {J' : Nat → Nat × Nat} {H' : Heap} {w' : World} (hr : (execOp a.eval o).run X.C.P w = .ok (.value (ren J' v)) w')
    (hs : St X.C n' J' H' w') (hn : n ≤ n') (hJ : ∀ i, i < n → J' i = J i) (hv : Und n' v) (hk : k v n' H') : OpOk X o a w n J k := by
  intro next Q h
  unfold Oper.wp
  rw [hr]
  exact h n' J' H' w' v hs hn hJ hv hk
theorem OpOk.val (hs : St X.C n J H w) {v : Value} (hr : (execOp a.eval o).run X.C.P w = .ok (.value (ren J v)) w) (hv : Und n v) (hk : k v n H) : OpOk X o a w n J k :=
  OpOk.run hr hs (Nat.le_refl _) (fun _ _ => rfl) hv hk
theorem OpOk.skip {H' : Heap} {w' : World} (hr : (execOp a.eval o).run X.C.P w = .ok .skip w') (hs : St X.C n J H' w') (hk : k undef n H') : OpOk X o a w n J k := by
  intro next Q h
  unfold Oper.wp
  rw [hr]
  have h1 := h n J H' w' undef hs (Nat.le_refl _) (fun _ _ => rfl) (fun _ _ _ => by simp [undef]) hk
  have h2 : ren J undef = undef := by simp [undef]
  rw [h2] at h1
  exact h1
end

/-! ### Arithmetic -/
def intA (op : BinOp) (k : IntKind) (x y : Int) : Option Value :=
  match op with
  | .add => some (.int k (k.wrap (x + y)))
  | .sub => some (.int k (k.wrap (x - y)))
  | .mul => some (.int k (k.wrap (x * y)))
  | .quo => if y = 0 then none else some (.int k (k.wrap (x.tdiv y)))
  | .rem => if y = 0 then none else some (.int k (x.tmod y))
  | .eql => some (.bool (x == y))
  | .neq => some (.bool (x != y))
  | .lss => some (.bool (decide (x < y)))
  | .leq => some (.bool (decide (x ≤ y)))
  | .gtr => some (.bool (decide (x > y)))
  | .geq => some (.bool (decide (x ≥ y)))
  | _ => none
def strA (op : BinOp) (x y : ByteArray) : Option Value :=
  match op with
  | .add => if x.size + y.size ≤ 9223372036854775807 then some (.string (x ++ y)) else none
  | .eql => some (.bool (x.toList == y.toList))
  | .neq => some (.bool !(x.toList == y.toList))
  | .lss => some (.bool (Op.bytesLess x.toList y.toList))
  | .leq => some (.bool (Op.bytesLess x.toList y.toList || x.toList == y.toList))
  | .gtr => some (.bool !(Op.bytesLess x.toList y.toList || x.toList == y.toList))
  | .geq => some (.bool !(Op.bytesLess x.toList y.toList))
  | _ => none
/-- Equality of two values that aren't numbers or strings. -/
def eqA (P : Program) (t : TypeId) (x y : Value) : Option Bool :=
  match tk P t, x, y with
  | .bool, .bool a, .bool b => some (a == b)
  | .pointer, .pointer none, .pointer b => some b.isNone
  | .pointer, .pointer (some _), .pointer none => some false
  | .slice, .slice none _ _, .slice b _ _ => some b.isNone
  | .slice, .slice (some _) _ _, .slice none _ _ => some false
  | .map, .map none, .map b => some b.isNone
  | .map, .map (some _), .map none => some false
  | .func, .nilFunc, .nilFunc => some true
  | .func, .nilFunc, .func _ _ _ => some false
  | .func, .func _ _ _, .nilFunc => some false
  | _, _, _ => none
/-- Two structs or arrays of numbers, bools and strings compare so. -/
def EqRun (P : Program) (t : TypeId) (xs ys : List Value) (b : Bool) : Prop :=
  (∀ v ∈ xs, flat v = true) ∧ (∀ v ∈ ys, flat v = true) ∧ P.eqGuardType P.depth t = false ∧ ∀ w, (Op.equal t (.agg xs.toArray) (.agg ys.toArray)).run P w = .ok b w
def binK (P : Program) (op : BinOp) (t : TypeId) (x y : Value) (k : Value → Prop) : Prop :=
  match op, x, y with
  | .shl, _, _ => False
  | .shr, _, _ => False
  | op, .int i a, .int j b => i = j ∧ optK (intA op i a b) k
  | op, .string a, .string b => optK (strA op a b) k
  | .eql, .agg xs, .agg ys => ∃ b, EqRun P t xs.toList ys.toList b ∧ k (.bool b)
  | .neq, .agg xs, .agg ys => ∃ b, EqRun P t xs.toList ys.toList b ∧ k (.bool !b)
  | .eql, x, y => optK (eqA P t x y) fun b => k (.bool b)
  | .neq, x, y => optK (eqA P t x y) fun b => k (.bool !b)
  | _, _, _ => False

theorem run_intA {op : BinOp} {k : IntKind} {x y : Int} {v : Value} {P : Program} {t : TypeId} (h : intA op k x y = some v) (w : World) :
    (binOp op t (.int k x) (.int k y)).run P w = .ok v w ∧ ∀ n, Und n v ∧ ∀ g, renV g v = v := by
  unfold intA at h
  cases op <;> simp only [Option.some.injEq, reduceCtorEq] at h <;>
    first
      | (subst h; refine ⟨?_, fun n => ⟨by simp, by simp⟩⟩; simp [binOp, Op.intArith, Op.intCmp])
      | (split at h
         · cases h
         · rename_i hy
           obtain rfl := Option.some.inj h
           refine ⟨?_, fun n => ⟨by simp, by simp⟩⟩
           simp [binOp, Op.intDiv, hy])
theorem run_strA {op : BinOp} {x y : ByteArray} {v : Value} {P : Program} {t : TypeId} (h : strA op x y = some v) (w : World) :
    (binOp op t (.string x) (.string y)).run P w = .ok v w ∧ ∀ n, Und n v ∧ ∀ g, renV g v = v := by
  unfold strA at h
  cases op <;> simp only [Option.some.injEq, reduceCtorEq] at h <;>
    first
      | (subst h; refine ⟨?_, fun n => ⟨by simp, by simp⟩⟩; simp [binOp, Op.stringOp]; done)
      | (split at h
         · rename_i hy
           obtain rfl := Option.some.inj h
           refine ⟨?_, fun n => ⟨by simp, by simp⟩⟩
           have : ¬ (((x.size + y.size : Nat) : Int) > IntKind.i64.max) := by
             have : IntKind.i64.max = 9223372036854775807 := by decide
             rw [this]; omega
           simp only [binOp, Op.stringOp, if_neg this]; rfl
         · cases h)

theorem tk_bool {P : Program} {t : TypeId} (h : tk P t = .bool) : P.underlying t = some .bool := by
  unfold tk at h; split at h <;> first | assumption | cases h
theorem tk_pointer {P : Program} {t : TypeId} (h : tk P t = .pointer) : ∃ e, P.underlying t = some (.pointer e) := by
  unfold tk at h; split at h <;> first | exact ⟨_, ‹_›⟩ | cases h
theorem tk_slice {P : Program} {t : TypeId} (h : tk P t = .slice) : ∃ e, P.underlying t = some (.slice e) := by
  unfold tk at h; split at h <;> first | exact ⟨_, ‹_›⟩ | cases h
theorem tk_map {P : Program} {t : TypeId} (h : tk P t = .map) : ∃ k e, P.underlying t = some (.map k e) := by
  unfold tk at h; split at h <;> first | exact ⟨_, _, ‹_›⟩ | cases h
theorem tk_func {P : Program} {t : TypeId} (h : tk P t = .func) : ∃ a b c, P.underlying t = some (.func a b c) := by
  unfold tk at h; split at h <;> first | exact ⟨_, _, _, ‹_›⟩ | cases h
theorem tk_int {P : Program} {t : TypeId} (h : tk P t = .int) : ∃ k, P.underlying t = some (.int k) := by
  unfold tk at h; split at h <;> first | exact ⟨_, ‹_›⟩ | cases h
theorem tk_string {P : Program} {t : TypeId} (h : tk P t = .string) : P.underlying t = some .string := by
  unfold tk at h; split at h <;> first | assumption | cases h
theorem tk_array {P : Program} {t : TypeId} {n : Nat} (h : tk P t = .array n) : ∃ e, P.underlying t = some (.array n e) := by
  unfold tk at h; split at h <;> first | (cases h; exact ⟨_, ‹_›⟩) | cases h
theorem run_eqIn {P : Program} {t : TypeId} {x y : Value} {b : Bool} (h : eqA P t x y = some b) (J : Nat → Nat × Nat) (d : Nat) (w : World) :
    (Op.equalIn (d + 1) t (ren J x) (ren J y)).run P w = .ok b w := by
  unfold eqA at h
  split at h <;> (first | cases h | skip)
  · rename_i ht; simp [Op.equalIn, run_under (tk_bool ht)]
  · rename_i b ht; obtain ⟨e, hu⟩ := tk_pointer ht; cases b <;> simp [Op.equalIn, run_under hu]
  · rename_i ht; obtain ⟨e, hu⟩ := tk_pointer ht; simp [Op.equalIn, run_under hu]
  · rename_i b _ _ ht; obtain ⟨e, hu⟩ := tk_slice ht; cases b <;> simp [Op.equalIn, run_under hu]
  · rename_i ht; obtain ⟨e, hu⟩ := tk_slice ht; simp [Op.equalIn, run_under hu]
  · rename_i b ht; obtain ⟨k, e, hu⟩ := tk_map ht; cases b <;> simp [Op.equalIn, run_under hu]
  · rename_i ht; obtain ⟨k, e, hu⟩ := tk_map ht; simp [Op.equalIn, run_under hu]
  · rename_i ht; obtain ⟨_, _, _, hu⟩ := tk_func ht; simp [Op.equalIn, run_under hu]
  · rename_i ht; obtain ⟨_, _, _, hu⟩ := tk_func ht; simp [Op.equalIn, run_under hu]
  · rename_i ht; obtain ⟨_, _, _, hu⟩ := tk_func ht; simp [Op.equalIn, run_under hu]
theorem renV_agg_of_not (J : Nat → Nat × Nat) (x : Value) : (∀ cs, x ≠ .agg cs) → ∀ cs, ren J x ≠ .agg cs := by
  intro h cs
  cases x with
  | pointer a => cases a <;> simp
  | slice a l c => cases a <;> simp
  | map r => cases r <;> simp
  | chan r => cases r <;> simp
  | agg xs => exact absurd rfl (h xs)
  | _ => simp
end Go.Aw
