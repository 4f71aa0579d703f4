/-
  The abstract machine, part 12: simp's rules for regions whose order is drawn; slices, loops.
-/
import Derived.Test.YtmgadjflgiokeaaAw11
namespace Go.Aw
open Go.RowKit

section
variable {X : Cx} {ops : Array Oper} {K : Nat → Fr → Heap → Prop} {p q : Plan} {F : List Fact} {n : Nat} {fr : Fr} {H : Heap} {i : Nat}
def kTake (X : Cx) (ops : Array Oper) (K : Nat → Fr → Heap → Prop) (p : Plan) (F : List Fact) (dst : Option Tmp) (fr : Fr) (n : Nat) (H : Heap) : Value → List Fact → Prop := fun v L => AEx X ops K p (L ++ F) n (put dst v fr) H
@[simp ↓] theorem kTake_apply {dst : Option Tmp} {v : Value} {L : List Fact} : kTake X ops K p F dst fr n H v L = AEx X ops K p (L ++ F) n (put dst v fr) H := nr rfl
def kEach (X : Cx) (ops : Array Oper) (K : Nat → Fr → Heap → Prop) (obl : List Nat) (p : Plan) (F : List Fact) (dst : Option Tmp) (fr : Fr) : Value → Nat → Heap → Prop := fun v n' H' => oblK X.C H' obl F ∧ AEx X ops K p F n' (put dst v fr) H'
@[simp ↓] theorem kEach_apply {C : Ctx} {N n0 : Nat} {J0 : Nat → Nat × Nat} {dst : Option Tmp} {v : Value} {obl : List Nat} : kEach ⟨C, N, n0, J0⟩ ops K obl p F dst fr v n H = (oblK C H obl F ∧ AEx ⟨C, N, n0, J0⟩ ops K p F n (put dst v fr) H) := nr rfl
@[simp ↓] theorem ex_done : AEx X ops K .done F n fr H = K n fr H := nr rfl
@[simp ↓] theorem ex_stop : AEx X ops K .stop F n fr H = True := nr rfl
def exTake (X : Cx) (ops : Array Oper) (K : Nat → Fr → Heap → Prop) (p : Plan) (F : List Fact) (n : Nat) (fr : Fr) (H : Heap) (i : Nat) (o : Oper) : Prop := dOk X.N o.dst ∧ gate ops o.guard fr (fun fr => takeA X.C (ev fr) i o.op (kTake X ops K p F o.dst fr n H) n H) (fun fr => AEx X ops K p F n (put o.dst undef fr) H)
@[simp ↓] theorem exTake_mk {C : Ctx} {N n0 : Nat} {J0 : Nat → Nat × Nat} {dst : Option Tmp} {op : Op} {ty : TypeId} {pos : String} {after : Array Edge} {g : Option (Nat × Bool)} :
    exTake ⟨C, N, n0, J0⟩ ops K p F n fr H i ⟨dst, op, ty, pos, after, g⟩ = (dOk N dst ∧ gate ops g fr (fun fr => takeA C (ev fr) i op (kTake ⟨C, N, n0, J0⟩ ops K p F dst fr n H) n H) (fun fr => AEx ⟨C, N, n0, J0⟩ ops K p F n (put dst undef fr) H)) := nr rfl
@[simp ↓] theorem ex_take : AEx X ops K (.take i p) F n fr H = optK ops[i]? (exTake X ops K p F n fr H i) := nr rfl
def exEach (X : Cx) (ops : Array Oper) (K : Nat → Fr → Heap → Prop) (obl : List Nat) (p : Plan) (F : List Fact) (n : Nat) (fr : Fr) (H : Heap) (o : Oper) : Prop := dOk X.N o.dst ∧ gate ops o.guard fr (fun fr => opA X.C (ev fr) o.op (kEach X ops K obl p F o.dst fr) n H) (fun fr => AEx X ops K p F n (put o.dst undef fr) H)
@[simp ↓] theorem exEach_mk {C : Ctx} {N n0 : Nat} {J0 : Nat → Nat × Nat} {obl : List Nat} {dst : Option Tmp} {op : Op} {ty : TypeId} {pos : String} {after : Array Edge} {g : Option (Nat × Bool)} :
    exEach ⟨C, N, n0, J0⟩ ops K obl p F n fr H ⟨dst, op, ty, pos, after, g⟩ = (dOk N dst ∧ gate ops g fr (fun fr => opA C (ev fr) op (kEach ⟨C, N, n0, J0⟩ ops K obl p F dst fr) n H) (fun fr => AEx ⟨C, N, n0, J0⟩ ops K p F n (put dst undef fr) H)) := nr rfl
@[simp ↓] theorem ex_each {obl : List Nat} : AEx X ops K (.each i obl p q) F n fr H = (optK ops[i]? (exEach X ops K obl p F n fr H) ∧ AEx X ops K q F n fr H) := nr rfl
/-- What follows an operation that was taken. -/
def kPure (k : Value → List Fact → Prop) : Value → Nat → Heap → Prop := fun v _ _ => k v []
@[simp ↓] theorem kPure_apply {k : Value → List Fact → Prop} {v : Value} : kPure k v n H = k v [] := nr rfl
variable {C : Ctx} {ρ : Operand → Option Value} {k : Value → List Fact → Prop}
@[simp ↓] theorem t_load {t : TypeId} {x : Operand} : takeA C ρ i (.load t x) k n H = optK (ρ x) fun p => optK (asA p) fun ad => optK (loadA C H t ad) fun v => k v [(i, t, ad, v)] := nr rfl
@[simp ↓] theorem t_move {x : Operand} : takeA C ρ i (.move x) k n H = opA C ρ (.move x) (kPure k) n (fun _ => .dead) := nr rfl
@[simp ↓] theorem t_assign {x : Operand} : takeA C ρ i (.assign x) k n H = opA C ρ (.assign x) (kPure k) n (fun _ => .dead) := nr rfl
@[simp ↓] theorem t_pick {c x y : Operand} : takeA C ρ i (.pick c x y) k n H = opA C ρ (.pick c x y) (kPure k) n (fun _ => .dead) := nr rfl
@[simp ↓] theorem t_build {t : TypeId} {ps : Array (Nat × Operand)} : takeA C ρ i (.build t ps) k n H = opA C ρ (.build t ps) (kPure k) n (fun _ => .dead) := nr rfl
@[simp ↓] theorem t_nilCheck {x : Operand} : takeA C ρ i (.nilCheck x) k n H = opA C ρ (.nilCheck x) (kPure k) n (fun _ => .dead) := nr rfl
@[simp ↓] theorem t_binOp {b : BinOp} {t u : TypeId} {x y : Operand} : takeA C ρ i (.binOp b t x y u) k n H = opA C ρ (.binOp b t x y u) (kPure k) n (fun _ => .dead) := nr rfl
@[simp ↓] theorem t_unOp {b : UnOp} {t : TypeId} {x : Operand} : takeA C ρ i (.unOp b t x) k n H = opA C ρ (.unOp b t x) (kPure k) n (fun _ => .dead) := nr rfl
@[simp ↓] theorem t_fieldAddr {s f : Nat} {x : Operand} : takeA C ρ i (.fieldAddr s x f) k n H = opA C ρ (.fieldAddr s x f) (kPure k) n (fun _ => .dead) := nr rfl
@[simp ↓] theorem t_indexAddr {t : TypeId} {x y : Operand} : takeA C ρ i (.indexAddr t x y) k n H = opA C ρ (.indexAddr t x y) (kPure k) n (fun _ => .dead) := nr rfl
@[simp ↓] theorem t_field {t f : Nat} {x : Operand} : takeA C ρ i (.field t x f) k n H = opA C ρ (.field t x f) (kPure k) n (fun _ => .dead) := nr rfl
@[simp ↓] theorem t_index {t : TypeId} {x y : Operand} : takeA C ρ i (.index t x y) k n H = opA C ρ (.index t x y) (kPure k) n (fun _ => .dead) := nr rfl
@[simp ↓] theorem t_extract {x : Operand} {j : Nat} : takeA C ρ i (.extract x j) k n H = opA C ρ (.extract x j) (kPure k) n (fun _ => .dead) := nr rfl
@[simp ↓] theorem t_makeFunc {f : Fn} {x y : Array Operand} : takeA C ρ i (.makeFunc f x y) k n H = opA C ρ (.makeFunc f x y) (kPure k) n (fun _ => .dead) := nr rfl
@[simp ↓] theorem t_convert {t u : TypeId} {x : Operand} : takeA C ρ i (.convert t u x) k n H = opA C ρ (.convert t u x) (kPure k) n (fun _ => .dead) := nr rfl
@[simp ↓] theorem t_slice {t : TypeId} {x : Operand} {lo hi : Option Operand} : takeA C ρ i (.slice t x lo hi none) k n H = opA C ρ (.slice t x lo hi none) (kPure k) n (fun _ => .dead) := nr rfl
@[simp ↓] theorem t_call {c : Call} : takeA C ρ i (.call c) k n H = opA C ρ (.call c) (kPure k) n (fun _ => .dead) := nr rfl
@[simp] theorem oblK_nil {obl : List Nat} : oblK C H obl [] = True := nr rfl
@[simp] theorem oblK_none : oblK C H [] F = True := by
  induction F with
  | nil => rfl
  | cons e F ih => simp [oblK, ih]
@[simp] theorem oblK_cons {obl : List Nat} {j : Nat} {t : TypeId} {ad : Addr} {v : Value} : oblK C H obl ((j, t, ad, v) :: F) = ((j ∈ obl → loadA C H t ad = some v) ∧ oblK C H obl F) := by simp [oblK]
end
/-- A loop that is run round by round. -/
def evL (X : Cx) (c : Code) (Q : Post) : Nat → Nat → Fr → Heap → Prop
  | 0, _, _, _ => False
  | f + 1, n, fr, H => evC X c (thenP (evL X c Q f) Q) n fr H
@[simp ↓] theorem evL_succ {X : Cx} {c : Code} {Q : Post} {f n : Nat} {fr : Fr} {H : Heap} : evL X c Q (f + 1) n fr H = evC X c (thenP (evL X c Q f) Q) n fr H := nr rfl
theorem AW.rounds {X : Cx} {c : Code} {Q : Post} {n : Nat} {fr : Fr} {H : Heap} (f : Nat) (h : evL X c Q f n fr H) : AW X (.loop c) Q n fr H := by
  refine AW.loop (fun k n fr H => evL X c Q k n fr H) f h ?_
  intro k n fr H hk
  cases k with
  | zero => exact hk.elim
  | succ k =>
    refine AW.mono (evC_sound _ _ _ _ _ hk) ?_
    intro e n fr H h
    cases e <;> first | exact ⟨k, Nat.lt_succ_self k, h⟩ | exact h
theorem EqRun.uniq {P : Program} {t : TypeId} {xs ys : List Value} {b b' : Bool} (h : EqRun P t xs ys b) (h' : EqRun P t xs ys b') : b' = b := by
  have h1 := h.2.2.2 default
  rw [h'.2.2.2 default] at h1
  injection h1
theorem EqRun.eql {P : Program} {t : TypeId} {xs ys : Array Value} {b : Bool} {k : Value → Prop} (h : EqRun P t xs.toList ys.toList b) : binK P .eql t (.agg xs) (.agg ys) k = k (.bool b) :=
  propext ⟨fun ⟨b', h', hk⟩ => by rw [← h.uniq h']; exact hk, fun hk => ⟨b, h, hk⟩⟩
theorem EqRun.neq {P : Program} {t : TypeId} {xs ys : Array Value} {b : Bool} {k : Value → Prop} (h : EqRun P t xs.toList ys.toList b) : binK P .neq t (.agg xs) (.agg ys) k = k (.bool !b) :=
  propext ⟨fun ⟨b', h', hk⟩ => by rw [← h.uniq h']; exact hk, fun hk => ⟨b, h, hk⟩⟩
section
variable {P : Program} {t : TypeId} {k : Value → Prop}
/-- The address of a slice's or an array's element, the kind given. -/
def ixK (P : Program) (t : TypeId) (x : Value) (i : Int) (k : Value → Prop) : TK → Prop
  | .slice => optK (elemS P t) fun ⟨_, sz, _⟩ => optK (asS x) fun ⟨a, l, _⟩ => (0 ≤ i ∧ i < l ∧ a.isSome = true) ∧ k (.pointer (some ((a.getD default).add (i.toNat * sz))))
  | .array _ => optK (elemR P t) fun ⟨n, sz⟩ => optK (asA x) fun a => (0 ≤ i ∧ i < n) ∧ k (.pointer (some (a.add (i.toNat * sz))))
  | _ => False
theorem ixK_congr {x : Value} {i : Int} {a b : TK} (h : mk a = b) (k : Value → Prop) : ixK P t x i k a = ixK P t x i k b := by rw [← h]; rfl
theorem ixK_congr2 {P : Program} {t : TypeId} {x x' : Value} {i i' : Int} {a b : TK} (h : mk a = b) (h2 : mk x = x') (h3 : mk i = i') (k : Value → Prop) : ixK P t x i k a = ixK P t x' i' k b := by rw [← h, ← h2, ← h3]; rfl
attribute [congr] ixK_congr2
@[simp ↓] theorem ixA_eq {x : Value} {i : Int} : ixA P t x i k = ixK P t x i k (tk P t) := by
  unfold ixA ixK
  cases tk P t <;> rfl
@[simp ↓] theorem ixK_slice {a : Option Addr} {l c : Nat} {i : Int} : ixK P t (.slice a l c) i k .slice = optK (elemS P t) fun q => (0 ≤ i ∧ i < l ∧ a.isSome = true) ∧ k (.pointer (some ((a.getD default).add (i.toNat * q.2.1)))) := nr rfl
@[simp ↓] theorem ixK_array {x : Value} {i : Int} {m : Nat} : ixK P t x i k (.array m) = optK (elemR P t) fun ⟨n, sz⟩ => optK (asA x) fun a => (0 ≤ i ∧ i < n) ∧ k (.pointer (some (a.add (i.toNat * sz)))) := nr rfl
attribute [simp] ixK_slice ixK_array
end
/-! ### append -/
section
variable {C : Ctx} {H : Heap} {t e n sz l c m d : Nat} {A B : Option Addr} {k : Value → Nat → Heap → Prop} {new_ : List Value}
def appF (k : Value → Nat → Heap → Prop) (A : Option Addr) (l m c n : Nat) (H : Heap) (e sz : Nat) : AppR → Prop
  | .same => k (.slice A l c) n H
  | .room H' => k (.slice A (l + m) c) n H'
  | .grow cs H' => k (.slice (some ⟨new n, 0, none⟩) (l + m) (l + m)) (n + 1) (hset n (.cells cs e sz) H')
@[simp ↓] theorem appF_same : appF k A l m c n H e sz .same = k (.slice A l c) n H := nr rfl
@[simp ↓] theorem appF_room {H' : Heap} : appF k A l m c n H e sz (.room H') = k (.slice A (l + m) c) n H' := nr rfl
@[simp ↓] theorem appF_grow {cs : List Value} {H' : Heap} : appF k A l m c n H e sz (.grow cs H') = k (.slice (some ⟨new n, 0, none⟩) (l + m) (l + m)) (n + 1) (hset n (.cells cs e sz) H') := nr rfl
theorem appF_congr {r r' : AppR} (h : mk r = r') (k : Value → Nat → Heap → Prop) (A : Option Addr) (l m c n : Nat) (H : Heap) (e sz : Nat) : appF k A l m c n H e sz r = appF k A l m c n H e sz r' := by rw [← h]; rfl
attribute [congr] appF_congr
@[simp ↓] theorem appK_eq : appK C H t n (.slice A l c) (.slice B m d) k = optK (elemS C.P t) fun ⟨e, sz, by_⟩ => optK (zeroA C.P e) fun z => (z.length = sz ∧ 0 < sz ∧ (l + m) * by_ ≤ 140737488355328 ∧ l + m ≤ 140737488355328) ∧
    optK (rowA C H B (m * sz)) fun new => oneAll new = true ∧ optK (appA C H e sz A l c new m) (appF k A l m c n H e sz) := by
  simp only [appK]
  congr 1; funext ⟨e, sz, b⟩
  show optK _ _ = optK _ _
  congr 1; funext z
  rw [and_assoc, and_assoc, and_assoc]
  refine congrArg _ (congrArg _ (congrArg _ (congrArg _ (congrArg _ (funext fun l' => congrArg _ (congrArg _ (funext fun r => ?_)))))))
  cases r <;> rfl
@[simp] theorem rowA_nil {j : Nat} : rowA C H none j = if j = 0 then some [] else none := nr rfl
@[simp] theorem rowA_at {a : Addr} {j : Nat} : rowA C H (some a) j = getN C H a j 0 := nr rfl
@[simp] theorem appA_none : appA C H e sz none l c new_ m = if m = 0 then (if l ≤ c then some .same else none) else if l = 0 ∧ c = 0 then some (.grow new_ H) else none := nr rfl
/-- The case of an own slice, the object given. -/
def appN (H : Heap) (e sz j l c : Nat) (new_ : List Value) (m : Nat) : AObj → Option AppR
  | .tight => if l = 0 ∧ c < m then some (.grow new_ H) else none
  | .fixed cs T sz' => if T = e ∧ sz' = sz ∧ c * sz = cs.length ∧ l ≤ c then
      if l + m ≤ c then some (.room (hset j (.cells (cs.take (l * sz) ++ new_ ++ cs.drop (l * sz + new_.length)) T sz) H)) else some (.grow (cs.take (l * sz) ++ new_) H)
    else none
  | .cells cs T sz' => if T = e ∧ sz' = sz ∧ c * sz = cs.length ∧ l ≤ c then
      if l + m ≤ c then some (.room (hset j (.cells (cs.take (l * sz) ++ new_ ++ cs.drop (l * sz + new_.length)) T sz) H)) else some (.grow (cs.take (l * sz) ++ new_) (hset j .dead H))
    else none
  | _ => none
@[simp] theorem appN_cells {cs : List Value} {T sz' j : Nat} : appN H e sz j l c new_ m (.cells cs T sz') = if T = e ∧ sz' = sz ∧ c * sz = cs.length ∧ l ≤ c then
      if l + m ≤ c then some (.room (hset j (.cells (cs.take (l * sz) ++ new_ ++ cs.drop (l * sz + new_.length)) T sz) H)) else some (.grow (cs.take (l * sz) ++ new_) (hset j .dead H))
    else none := nr rfl
@[simp] theorem appN_tight {j : Nat} : appN H e sz j l c new_ m .tight = if l = 0 ∧ c < m then some (.grow new_ H) else none := nr rfl
@[simp] theorem appA_new {j : Nat} : appA C H e sz (some ⟨new j, 0, none⟩) l c new_ m = if m = 0 then (if l ≤ c then some .same else none) else appN H e sz j l c new_ m (H j) := by
  simp only [appA, new_odd, new_half]
  by_cases hm : m = 0
  · simp [hm]
  · simp only [hm, if_false]
    cases H j <;> simp [appN]
@[simp] theorem appA_old {b o : Nat} : appA C H e sz (some ⟨old b, o, none⟩) l c new_ m = if m = 0 then (if l ≤ c then some .same else none) else if c < l + m then (getN C H ⟨old b, o, none⟩ (l * sz) 0).map fun old => .grow (old ++ new_) H else none := by
  simp only [appA, old_even]
  by_cases hm : m = 0
  · simp [hm]
  · by_cases hc : c < l + m
    · simp only [hm, hc, if_true, if_false]; cases getN C H ⟨old b, o, none⟩ (l * sz) 0 <;> simp
    · simp [hm, hc]
@[simp low] theorem optK_ite2 {α : Type} {p : Prop} [Decidable p] {a b : Option α} {k : α → Prop} : optK (if p then a else b) k = ((p → optK a k) ∧ (¬p → optK b k)) := by
  by_cases h : p <;> simp [h]
end
/-- A call, its function given; where what is known of the heap's numbers isn't asked for. -/
theorem ACall.run {C : Ctx} {f : FuncId} {fn : Func} {c : Code} {args : List Value} {K : Value → Nat → Heap → Prop} {n N : Nat} {H : Heap} {rs : Array ResultVar} (hf : C.P.funcs[f]? = some fn) (hb : fn.body = some c)
    (hn : fn.ntmps = N) (hr : fn.results = rs) (hN : args.length ≤ N) (h : ∀ J0, evC ⟨C, N, n, J0⟩ c (bpost C n rs.toList K) n (params 0 args) H) : ACall C f args K n H := ACall.go hf hb hn hr hN fun _ _ => h
attribute [simp] Nat.add_assoc
@[simp] theorem wrap64 {x : Int} (h1 : -9223372036854775808 ≤ x) (h2 : x < 9223372036854775808) : IntKind.i64.wrap x = x := by
  rw [show IntKind.i64.wrap x = (x + 9223372036854775808) % 18446744073709551616 - 9223372036854775808 from by simp [IntKind.wrap, IntKind.bits, IntKind.signed]; omega]
  omega
theorem Fin_run {X : Cx} {ops : Array Oper} {Q : Nat → Fr → Heap → Prop} {l : List Oper} {dst : Option Tmp} {fr : Fr} {n0 n : Nat} {r : Value} {H : Heap} (h : kRun X ops Q l dst fr r n H) : Fin n0 (kRun X ops Q l dst fr) r n H := .inl h
theorem Fin_each {X : Cx} {ops : Array Oper} {Q : Nat → Fr → Heap → Prop} {obl : List Nat} {p : Plan} {F : List Fact} {dst : Option Tmp} {fr : Fr} {n0 n : Nat} {r : Value} {H : Heap} (h : kEach X ops Q obl p F dst fr r n H) : Fin n0 (kEach X ops Q obl p F dst fr) r n H := .inl h
theorem Fin_id {n0 n : Nat} {K : Value → Nat → Heap → Prop} {r : Value} {H : Heap} (h : K r n H) : Fin n0 K r n H := .inl h
end Go.Aw
