/-
  The abstract machine, part 9: code is run by simp. The rules of the run: those with an arrow are taken before simp looks inside.
-/
import Derived.Test.YtmgadjflgiokeaaAw8
import Derived.Laws.Strings
set_option linter.unusedSimpArgs false
set_option linter.unusedVariables false
namespace Go.Aw
open Go.RowKit

def evC (X : Cx) : Code → Post → Nat → Fr → Heap → Prop
  | .skip, Q, n, fr, H => Q .normal n fr H
  | .seq a b, Q, n, fr, H => evC X a (thenP (evC X b Q) Q) n fr H
  | .cond c a b, Q, n, fr, H => optK (ev fr c) fun v => optK (asB v) fun t => (t = true → evC X a Q n fr H) ∧ (t = false → evC X b Q n fr H)
  | .block id b, Q, n, fr, H => evC X b (inBlockP id Q) n fr H
  | .exit id, Q, n, fr, H => Q (.exit id) n fr H
  | .ret, Q, n, fr, H => Q .ret n fr H
  | .region id ops d, Q, n, fr, H => if d then AW X (.region id ops true) Q n fr H else ARun X ops (Q .normal) ops.toList n fr H
  | .loop b, Q, n, fr, H => AW X (.loop b) Q n fr H
  | c, Q, n, fr, H => AW X c Q n fr H
theorem evC_sound {X : Cx} : ∀ (c : Code) (Q : Post) (n : Nat) (fr : Fr) (H : Heap), evC X c Q n fr H → AW X c Q n fr H := by
  intro c
  induction c with
  | skip => exact fun Q n fr H h => AW.skip h
  | region id ops d =>
    intro Q n fr H h
    simp only [evC] at h
    cases d with
    | true => simpa using h
    | false => exact AW.region (by simpa using h)
  | seq a b iha ihb =>
    intro Q n fr H h
    refine AW.seq (AW.mono (iha _ n fr H h) ?_)
    intro e n fr H h
    cases e <;> first | exact ihb _ _ _ _ h | exact h
  | cond c a b iha ihb =>
    intro Q n fr H h
    obtain ⟨v, hv, h⟩ := optK_ex h
    obtain ⟨t, ht, h1, h2⟩ := optK_ex h
    obtain rfl := asB_some ht
    exact AW.cond hv (fun e => iha _ _ _ _ (h1 e)) (fun e => ihb _ _ _ _ (h2 e))
  | block id b ih => exact fun Q n fr H h => AW.block (ih _ _ _ _ h)
  | exit id => exact fun Q n fr H h => AW.exit h
  | ret => exact fun Q n fr H h => AW.ret h
  | loop b _ => exact fun Q n fr H h => h
  | _ => exact fun Q n fr H h => h

@[simp ↓] theorem gq_zero {α : Type} {a : α} {l : List α} : (a :: l)[0]? = some a := nr rfl
@[simp ↓] theorem gq_succ {α : Type} {a : α} {l : List α} {k : Nat} : (a :: l)[k + 1]? = l[k]? := nr rfl
@[simp ↓] theorem gq_arr {α : Type} {l : List α} {k : Nat} : l.toArray[k]? = l[k]? := nr (by simp)
/-- The two ways of a boolean. -/
def cif (b : Bool) (A B : Prop) : Prop := (b = true → A) ∧ (b = false → B)
@[simp] theorem cif_true {A B : Prop} : cif true A B = A := by simp [cif]
@[simp] theorem cif_false {A B : Prop} : cif false A B = B := by simp [cif]
attribute [simp ↓] cif_true cif_false
theorem cif_sym {b : Bool} {A B : Prop} : cif b A B = ((b = true → A) ∧ (b = false → B)) := nr rfl
/-- The two ways of a boolean that a frame holds: a literal one leaves the frame, another is put as a literal. -/
def gif (d : Tmp) (b : Bool) (fr : Fr) (A B : Fr → Prop) : Prop := (b = true → A ((d, .bool true) :: fr)) ∧ (b = false → B ((d, .bool false) :: fr))
@[simp] theorem gif_true {d : Tmp} {fr : Fr} {A B : Fr → Prop} : gif d true fr A B = A ((d, .bool true) :: fr) := by simp [gif]
@[simp] theorem gif_false {d : Tmp} {fr : Fr} {A B : Fr → Prop} : gif d false fr A B = B ((d, .bool false) :: fr) := by simp [gif]
attribute [simp ↓] gif_true gif_false
theorem gif_sym {d : Tmp} {b : Bool} {fr : Fr} {A B : Fr → Prop} : gif d b fr A B = ((b = true → A ((d, .bool true) :: fr)) ∧ (b = false → B ((d, .bool false) :: fr))) := nr rfl
/-- A mark that simp takes away: what bears it counts as changed, so simp looks no further. -/
def mk {α : Sort _} (a : α) : α := a
@[simp] theorem mk_eq {α : Sort _} {a : α} : mk a = a := nr rfl
theorem optK_asB {o : Option Value} {k : Bool → Prop} : (optK o fun v => optK (asB v) k) = optK (o.bind asB) k := by cases o <;> rfl
theorem gateV_congr {v v' : Value} (h : mk v = v') (d : Tmp) (w : Bool) (fr : Fr) (A B : Fr → Prop) : gateV d v w fr A B = gateV d v' w fr A B := by rw [← h]; rfl
attribute [congr] gateV_congr
@[simp ↓] theorem gateV_yes {d : Tmp} {b : Bool} {fr : Fr} {A B : Fr → Prop} : gateV d (.bool b) true fr A B = gif d b fr A B := nr rfl
@[simp ↓] theorem gateV_no {d : Tmp} {b : Bool} {fr : Fr} {A B : Fr → Prop} : gateV d (.bool b) false fr A B = gif d b fr B A := nr (by cases b <;> simp [gateV, gif])
@[simp ↓] theorem gateV_tuple {d : Tmp} {cs : Array Value} {w : Bool} {fr : Fr} {A B : Fr → Prop} : gateV d (.tuple cs) w fr A B = B fr := nr rfl
@[simp ↓] theorem gateV_undef {d : Tmp} {w : Bool} {fr : Fr} {A B : Fr → Prop} : gateV d undef w fr A B = B fr := nr rfl
attribute [simp] gateV_yes gateV_no gateV_tuple gateV_undef
section
variable {X : Cx} {Q : Post} {n : Nat} {fr : Fr} {H : Heap}
@[simp ↓] theorem ev_skip : evC X .skip Q n fr H = Q .normal n fr H := nr rfl
@[simp ↓] theorem ev_seq {a b : Code} : evC X (.seq a b) Q n fr H = evC X a (thenP (evC X b Q) Q) n fr H := nr rfl
@[simp ↓] theorem ev_cond {c : Operand} {a b : Code} : evC X (.cond c a b) Q n fr H = optK (ev fr c) fun v => optK (asB v) fun t => cif t (evC X a Q n fr H) (evC X b Q n fr H) := nr rfl
@[simp ↓] theorem ev_block {id : Nat} {b : Code} : evC X (.block id b) Q n fr H = evC X b (inBlockP id Q) n fr H := nr rfl
@[simp ↓] theorem ev_exit {id : Nat} : evC X (.exit id) Q n fr H = Q (.exit id) n fr H := nr rfl
@[simp ↓] theorem ev_ret : evC X .ret Q n fr H = Q .ret n fr H := nr rfl
@[simp ↓] theorem ev_region {id : Nat} {l : List Oper} : evC X (.region id l.toArray false) Q n fr H = ARun X l.toArray (Q .normal) l n fr H := nr rfl
@[simp ↓] theorem ev_draw {id : Nat} {ops : Array Oper} : evC X (.region id ops true) Q n fr H = AW X (.region id ops true) Q n fr H := nr rfl
@[simp ↓] theorem ev_loop {b : Code} : evC X (.loop b) Q n fr H = AW X (.loop b) Q n fr H := nr rfl
@[simp ↓] theorem thenP_normal {K : Nat → Fr → Heap → Prop} : thenP K Q .normal n fr H = K n fr H := nr rfl
@[simp ↓] theorem thenP_ret {K : Nat → Fr → Heap → Prop} : thenP K Q .ret n fr H = Q .ret n fr H := nr rfl
@[simp ↓] theorem thenP_exit {K : Nat → Fr → Heap → Prop} {id : Nat} : thenP K Q (.exit id) n fr H = Q (.exit id) n fr H := nr rfl
@[simp ↓] theorem inBlockP_normal {id : Nat} : inBlockP id Q .normal n fr H = Q .normal n fr H := nr rfl
@[simp ↓] theorem inBlockP_ret {id : Nat} : inBlockP id Q .ret n fr H = Q .ret n fr H := nr rfl
@[simp ↓] theorem inBlockP_same {id : Nat} : inBlockP id Q (.exit id) n fr H = Q .normal n fr H := by simp [inBlockP]
@[simp ↓] theorem inBlockP_exit {id id' : Nat} : inBlockP id Q (.exit id') n fr H = if id' = id then Q .normal n fr H else Q (.exit id') n fr H := nr rfl
@[simp ↓] theorem bpost_normal {C : Ctx} {n0 : Nat} {rs : List ResultVar} {K : Value → Nat → Heap → Prop} : bpost C n0 rs K .normal n fr H = optK (resV C fr H rs) fun r => Fin n0 K r n H := nr rfl
@[simp ↓] theorem bpost_ret {C : Ctx} {n0 : Nat} {rs : List ResultVar} {K : Value → Nat → Heap → Prop} : bpost C n0 rs K .ret n fr H = optK (resV C fr H rs) fun r => Fin n0 K r n H := nr rfl

/-- What follows an operation. -/
def kRun (X : Cx) (ops : Array Oper) (K : Nat → Fr → Heap → Prop) (r : List Oper) (dst : Option Tmp) (fr : Fr) : Value → Nat → Heap → Prop := fun v n H => ARun X ops K r n (put dst v fr) H
@[simp ↓] theorem kRun_apply {ops : Array Oper} {K : Nat → Fr → Heap → Prop} {r : List Oper} {dst : Option Tmp} {v : Value} : kRun X ops K r dst fr v n H = ARun X ops K r n (put dst v fr) H := nr rfl
@[simp ↓] theorem run_nil {ops : Array Oper} {K : Nat → Fr → Heap → Prop} : ARun X ops K [] n fr H = K n fr H := nr rfl
@[simp ↓] theorem run_cons {C : Ctx} {N n0 : Nat} {J0 : Nat → Nat × Nat} {ops : Array Oper} {K : Nat → Fr → Heap → Prop} {dst : Option Tmp} {op : Op} {ty : TypeId} {pos : String} {after : Array Edge} {g : Option (Nat × Bool)} {r : List Oper} :
    ARun ⟨C, N, n0, J0⟩ ops K (⟨dst, op, ty, pos, after, g⟩ :: r) n fr H = (dOk N dst ∧ gate ops g fr (fun fr => opA C (ev fr) op (kRun ⟨C, N, n0, J0⟩ ops K r dst fr) n H) (fun fr => ARun ⟨C, N, n0, J0⟩ ops K r n (put dst undef fr) H)) := nr rfl
@[simp ↓] theorem gate_none {ops : Array Oper} {A B : Fr → Prop} : gate ops none fr A B = A fr := nr rfl
@[simp ↓] theorem gate_some {ops : Array Oper} {A B : Fr → Prop} {j : Nat} {w : Bool} : gate ops (some (j, w)) fr A B = optK ((ops[j]?).bind (·.dst)) fun d => optK (lk d fr) fun v => gateV d v w fr A B := nr rfl
end
/-- simp looks at the data alone, never at what follows. -/
theorem optK_congr {α : Type} {o o' : Option α} (h : mk o = o') (k : α → Prop) : optK o k = optK o' k := by rw [← h]; rfl
theorem cif_congr {b b' : Bool} (h : mk b = b') (A B : Prop) : cif b A B = cif b' A B := by rw [← h]; rfl
theorem gif_congr {b b' : Bool} (h : mk b = b') (d : Tmp) (fr : Fr) (A B : Fr → Prop) : gif d b fr A B = gif d b' fr A B := by rw [← h]; rfl
theorem ACall_congr {C C' : Ctx} {f : FuncId} {args args' : List Value} {n n' : Nat} {H H' : Heap} (h : mk args = args') (h2 : mk n = n') (h3 : mk H = H') (h4 : mk C = C') (K : Value → Nat → Heap → Prop) : ACall C f args K n H = ACall C' f args' K n' H' := by rw [← h, ← h2, ← h3, ← h4]; rfl
theorem AW_congr {X : Cx} {c : Code} {Q : Post} {n n' : Nat} {fr fr' : Fr} {H H' : Heap} (h : mk fr = fr') (h2 : mk n = n') (h3 : mk H = H') : AW X c Q n fr H = AW X c Q n' fr' H' := by rw [← h, ← h2, ← h3]; rfl
theorem binK_congr {P P' : Program} {op : BinOp} {t : TypeId} {x x' y y' : Value} (h : mk x = x') (h2 : mk y = y') (h3 : mk P = P') (k : Value → Prop) : binK P op t x y k = binK P' op t x' y' k := by rw [← h, ← h2, ← h3]; rfl
theorem binHK_congr {P P' : Program} {H : Heap} {op : BinOp} {t : TypeId} {x x' y y' : Value} (h : mk x = x') (h2 : mk y = y') (h3 : mk P = P') (k : Value → Prop) : binHK P H op t x y k = binHK P' H op t x' y' k := by rw [← h, ← h2, ← h3]; rfl
theorem builtinA_congr {C : Ctx} {b : Builtin} {ts ts' : List TypeId} {vs vs' : List Value} (h : mk vs = vs') (h2 : mk ts = ts') (k : Value → Nat → Heap → Prop) (n : Nat) (H : Heap) : builtinA C b ts vs k n H = builtinA C b ts' vs' k n H := by rw [← h, ← h2]; rfl
theorem appK_congr {C : Ctx} {H : Heap} {t n : Nat} {s s' x x' : Value} (h : mk s = s') (h2 : mk x = x') (k : Value → Nat → Heap → Prop) : appK C H t n s x k = appK C H t n s' x' k := by rw [← h, ← h2]; rfl
theorem clearK_congr {C : Ctx} {H : Heap} {t : TypeId} {v v' : Value} (h : mk v = v') (k : Heap → Prop) : clearK C H t v k = clearK C H t v' k := by rw [← h]; rfl
theorem Fin_congr {n0 n n' : Nat} {K : Value → Nat → Heap → Prop} {r r' : Value} {H H' : Heap} (h : mk r = r') (h2 : mk n = n') (h3 : mk H = H') : Fin n0 K r n H = Fin n0 K r' n' H' := by rw [← h, ← h2, ← h3]; rfl
attribute [congr] optK_congr cif_congr gif_congr ACall_congr AW_congr binK_congr binHK_congr builtinA_congr appK_congr clearK_congr Fin_congr
attribute [simp ↓] optK_some
@[simp ↓] theorem optK_opt_some {α : Type} (v : α) (k : α → Prop) : optK (Option.some v) k = k v := nr rfl

/-- What follows. -/
def kVal (k : Value → Nat → Heap → Prop) (n : Nat) (H : Heap) : Value → Prop := fun v => k v n H
@[simp ↓] theorem kVal_apply {k : Value → Nat → Heap → Prop} {n : Nat} {H : Heap} {v : Value} : kVal k n H v = k v n H := nr rfl
def kHp (k : Value → Nat → Heap → Prop) (v : Value) (n : Nat) : Heap → Prop := fun H => k v n H
@[simp ↓] theorem kHp_apply {k : Value → Nat → Heap → Prop} {n : Nat} {H : Heap} {v : Value} : kHp k v n H = k v n H := nr rfl
def kVH (k : Value → Nat → Heap → Prop) (n : Nat) : Value → Heap → Prop := fun v H => k v n H
@[simp ↓] theorem kVH_apply {k : Value → Nat → Heap → Prop} {n : Nat} {H : Heap} {v : Value} : kVH k n v H = k v n H := nr rfl
def kObj (k : Value → Nat → Heap → Prop) (n : Nat) (H : Heap) : AObj → Prop := fun o => k (.pointer (some ⟨new n, 0, none⟩)) (n + 1) (hset n o H)
@[simp ↓] theorem kObj_apply {k : Value → Nat → Heap → Prop} {n : Nat} {H : Heap} {o : AObj} : kObj k n H o = k (.pointer (some ⟨new n, 0, none⟩)) (n + 1) (hset n o H) := nr rfl
def kInt (k : Value → Nat → Heap → Prop) (n : Nat) (H : Heap) : Int → Prop := fun l => k (.int .i64 l) n H
@[simp ↓] theorem kInt_apply {k : Value → Nat → Heap → Prop} {n : Nat} {H : Heap} {l : Int} : kInt k n H l = k (.int .i64 l) n H := nr rfl
theorem lookK_congr {C : Ctx} {H : Heap} {t : TypeId} {m m' key key' : Value} {ok : Bool} (h : mk m = m') (h2 : mk key = key') (k : Value → Prop) : lookK C H t m key ok k = lookK C H t m' key' ok k := by rw [← h, ← h2]; rfl
theorem updK_congr {C : Ctx} {H : Heap} {t : TypeId} {m m' key key' v v' : Value} (h : mk m = m') (h2 : mk key = key') (h3 : mk v = v') (k : Heap → Prop) : updK C H t m key v k = updK C H t m' key' v' k := by rw [← h, ← h2, ← h3]; rfl
theorem delK_congr {C : Ctx} {H : Heap} {t : TypeId} {m m' key key' : Value} (h : mk m = m') (h2 : mk key = key') (k : Heap → Prop) : delK C H t m key k = delK C H t m' key' k := by rw [← h, ← h2]; rfl
theorem rangeK_congr {C : Ctx} {H : Heap} {t : TypeId} {x x' : Value} (h : mk x = x') (k : AObj → Prop) : rangeK C H t x k = rangeK C H t x' k := by rw [← h]; rfl
theorem nextK_congr {H : Heap} {x x' : Value} (h : mk x = x') (k : Value → Heap → Prop) : nextK H x k = nextK H x' k := by rw [← h]; rfl
theorem capK_congr {C : Ctx} {H : Heap} {t : TypeId} {x x' : Value} (h : mk x = x') (k : Int → Prop) : capK C H t x k = capK C H t x' k := by rw [← h]; rfl
theorem cutK_congr {C : Ctx} {H : Heap} {n : Nat} {t : TypeId} {x x' : Value} {lo lo' hi hi' : Option (IntKind × Int)} {m m' : IntKind × Int} (h : mk x = x') (h2 : mk lo = lo') (h3 : mk hi = hi') (h4 : mk m = m') (k : Value → Nat → Heap → Prop) : cutK C H n t x lo hi m k = cutK C H n t x' lo' hi' m' k := by rw [← h, ← h2, ← h3, ← h4]; rfl
theorem entryK_congr {H : Heap} {x x' : Value} (h : mk x = x') (k : Value → Prop) : entryK H x k = entryK H x' k := by rw [← h]; rfl
attribute [congr] lookK_congr updK_congr delK_congr rangeK_congr nextK_congr entryK_congr capK_congr cutK_congr
/-- One of two values. -/
def pickV (c : Bool) (u v : Value) : Value := if c then u else v
@[simp ↓] theorem pickV_true {u v : Value} : pickV true u v = u := nr rfl
@[simp ↓] theorem pickV_false {u v : Value} : pickV false u v = v := nr rfl
@[simp] theorem pickV_and {c a : Bool} : pickV c (.bool a) (.bool false) = .bool (c && a) := by cases c <;> rfl
@[simp] theorem pickV_or {c b : Bool} : pickV c (.bool true) (.bool b) = .bool (c || b) := by cases c <;> rfl
attribute [simp] pickV_true pickV_false
/-- The greater and the lesser of two. -/
def mxI (a b : Int) : Int := if a < b then b else a
def mnI (a b : Int) : Int := if b < a then b else a
section
variable {C : Ctx} {ρ : Operand → Option Value} {k : Value → Nat → Heap → Prop} {n : Nat} {H : Heap}
@[simp ↓] theorem o_move {x : Operand} : opA C ρ (.move x) k n H = optK (ρ x) fun v => k v n H := nr rfl
@[simp ↓] theorem o_assign {x : Operand} : opA C ρ (.assign x) k n H = optK (ρ x) fun v => k v n H := nr rfl
@[simp ↓] theorem o_pick {c a b : Operand} : opA C ρ (.pick c a b) k n H = optK (ρ c) fun c => optK (asB c) fun c => optK (ρ a) fun u => optK (ρ b) fun v => k (pickV c u v) n H := nr rfl
@[simp ↓] theorem o_alloc {t : TypeId} : opA C ρ (.alloc t) k n H = optK (zeroA C.P t) fun z => k (.pointer (some ⟨new n, 0, none⟩)) (n + 1) (hset n (.cells z t 1) H) := nr rfl
@[simp ↓] theorem o_box {t : TypeId} {x : Operand} : opA C ρ (.box t x) k n H = optK (ρ x) fun v => k (.pointer (some ⟨new n, 0, none⟩)) (n + 1) (hset n (.cells v.cells.toList t 1) H) := nr rfl
@[simp ↓] theorem o_build {t : TypeId} {ps : Array (Nat × Operand)} : opA C ρ (.build t ps) k n H = optK (partsA ρ ps.toList) fun ps => optK (zeroA C.P t) fun z => optK (plA C.P t) fun pl => optK (fillA pl z ps) fun cs => k (.agg cs.toArray) n H := nr rfl
@[simp ↓] theorem o_buildSlice {t : TypeId} {len : Nat} {ps : Array (Nat × Operand)} : opA C ρ (.buildSlice t len ps) k n H = optK (partsA ρ ps.toList) fun ps => optK (elemS C.P t) fun ⟨e, sz, _⟩ => optK (zeroA C.P e) fun z => (z.length = sz ∧ 0 < sz ∧ len * sz ≤ 16777216) ∧
      optK (fillA ((List.range len).map fun j => (j * sz, sz)) (reps len z) ps) fun cs => k (.slice (some ⟨new n, 0, none⟩) len len) (n + 1) (hset n (.cells cs e sz) H) := nr rfl
@[simp ↓] theorem o_load {t : TypeId} {x : Operand} : opA C ρ (.load t x) k n H = optK (ρ x) fun p => optK (asA p) fun a => optK (loadA C H t a) fun v => k v n H := nr rfl
@[simp ↓] theorem o_store {t : TypeId} {x y : Operand} : opA C ρ (.store t x y) k n H = optK (ρ x) fun p => optK (asA p) fun a => optK (ρ y) fun v => optK (storeA C H t a v) fun H' => k undef n H' := nr rfl
@[simp ↓] theorem o_nilCheck {x : Operand} : opA C ρ (.nilCheck x) k n H = optK (ρ x) fun v => optK (nilA v) fun v => k v n H := nr rfl
@[simp ↓] theorem o_binOp {op : BinOp} {t u : TypeId} {x y : Operand} : opA C ρ (.binOp op t x y u) k n H = optK (ρ x) fun a => optK (ρ y) fun b => binHK C.P H op t a b fun v => k v n H := nr rfl
@[simp ↓] theorem o_unOp {op : UnOp} {t : TypeId} {x : Operand} : opA C ρ (.unOp op t x) k n H = optK (ρ x) fun a => optK (unA op a) fun v => k v n H := nr rfl
@[simp ↓] theorem o_fieldAddr {s f : Nat} {x : Operand} : opA C ρ (.fieldAddr s x f) k n H = optK (ρ x) fun p => optK (asA p) fun a => optK (fld C.P s f) fun off => k (.pointer (some (a.add off))) n H := nr rfl
@[simp ↓] theorem o_indexAddr {t : TypeId} {x y : Operand} : opA C ρ (.indexAddr t x y) k n H = optK (ρ x) fun p => optK (ρ y) fun y => optK (asI y) fun ⟨_, i⟩ => ixA C.P t p i fun v => k v n H := nr rfl
@[simp ↓] theorem o_field {t f : Nat} {x : Operand} : opA C ρ (.field t x f) k n H = optK (ρ x) fun v => optK (asG v) fun cs => optK (fieldA C.P t f) fun ⟨u, off⟩ => optK (partA C.P u cs off) fun v => k v n H := nr rfl
@[simp ↓] theorem o_index {t : TypeId} {x y : Operand} : opA C ρ (.index t x y) k n H = optK (ρ x) fun v => optK (ρ y) fun y => optK (asI y) fun p => idxA C.P t v p.2 fun v => k v n H := nr rfl
@[simp ↓] theorem o_convert {src dst : TypeId} {x : Operand} : opA C ρ (.convert src dst x) k n H = optK (ρ x) fun v => optK (convA C.P src dst v) fun v => k v n H := nr rfl
@[simp ↓] theorem o_slice {t : TypeId} {x : Operand} {lo hi : Option Operand} : opA C ρ (.slice t x lo hi none) k n H = optK (ρ x) fun v => optK (bndA ρ lo) fun lo => optK (bndA ρ hi) fun hi => sliceA C.P t v lo hi fun v => k v n H := nr rfl
@[simp ↓] theorem o_slice3 {t : TypeId} {x mx : Operand} {lo hi : Option Operand} : opA C ρ (.slice t x lo hi (some mx)) k n H = optK (ρ x) fun v => optK (bndA ρ lo) fun lo => optK (bndA ρ hi) fun hi => optK (ρ mx) fun m => optK (asI m) fun m => cutK C H n t v lo hi m k := nr rfl
@[simp ↓] theorem o_makeSlice {t : TypeId} {l c : Operand} : opA C ρ (.makeSlice t l c) k n H = optK (ρ l) fun l => optK (asI l) fun l => optK (ρ c) fun c => optK (asI c) fun c => optK (elemS C.P t) fun q => optK (zeroA C.P q.1) fun z => (z.length = q.2.1 ∧ 0 < q.2.1 ∧ 0 ≤ l.2 ∧ l.2 ≤ c.2 ∧ c.2 * q.2.2 ≤ 281474976710656 ∧ c.2 ≤ 281474976710656) ∧
      k (.slice (some ⟨new n, 0, none⟩) l.2.toNat c.2.toNat) (n + 1) (hset n (.cells (reps c.2.toNat z) q.1 q.2.1) H) := nr rfl
@[simp ↓] theorem o_makeMap {t : TypeId} : opA C ρ (.makeMap t none) k n H = k (.map (some (new n))) (n + 1) (hset n (.map [] 0) H) := nr rfl
@[simp ↓] theorem o_lookup {t : TypeId} {x y : Operand} {ok : Bool} : opA C ρ (.lookup t x y ok) k n H = optK (ρ x) fun m => optK (ρ y) fun key => lookK C H t m key ok (kVal k n H) := nr rfl
@[simp ↓] theorem o_mapUpdate {t : TypeId} {x y v : Operand} : opA C ρ (.mapUpdate t x y v) k n H = optK (ρ x) fun m => optK (ρ y) fun key => optK (ρ v) fun v => updK C H t m key v (kHp k undef n) := nr rfl
@[simp ↓] theorem o_insert {t : TypeId} {x y v : Operand} : opA C ρ (.insert t x y v) k n H = optK (ρ x) fun m => optK (ρ y) fun key => optK (ρ v) fun v => updK C H t m key v (kHp k undef n) := nr rfl
@[simp ↓] theorem o_range {t : TypeId} {x : Operand} : opA C ρ (.range t x) k n H = optK (ρ x) fun v => rangeK C H t v (kObj k n H) := nr rfl
@[simp ↓] theorem o_next {x : Operand} : opA C ρ (.next x false) k n H = optK (ρ x) fun v => nextK H v (kVH k n) := nr rfl
@[simp ↓] theorem o_entry {x : Operand} : opA C ρ (.entry x) k n H = optK (ρ x) fun v => entryK H v (kVal k n H) := nr rfl
@[simp ↓] theorem o_extract {x : Operand} {i : Nat} : opA C ρ (.extract x i) k n H = optK (ρ x) fun v => optK (asT v) fun vs => optK vs[i]? fun v => k v n H := nr rfl
@[simp ↓] theorem o_makeFunc {f : Fn} {x y : Array Operand} : opA C ρ (.makeFunc f x y) k n H = optK (argsA ρ x.toList) fun x => optK (argsA ρ y.toList) fun y => k (.func f x.toArray y.toArray) n H := nr rfl
@[simp ↓] theorem o_call {f : Operand} {args : Array Operand} {ts : Array TypeId} : opA C ρ (.call ⟨.value f, args, ts⟩) k n H = optK (ρ f) fun f => optK (asF f) fun ⟨f, x, y⟩ => optK (argsA ρ args.toList) fun vs => entB C.P f = true ∧ ACall C f (x ++ vs ++ y) k n H := nr rfl
@[simp ↓] theorem o_builtin {b : Builtin} {args : Array Operand} {ts : Array TypeId} : opA C ρ (.call ⟨.builtin b, args, ts⟩) k n H = optK (argsA ρ args.toList) fun vs => builtinA C b ts.toList vs k n H := nr rfl
@[simp ↓] theorem b_len {t : TypeId} {r : List TypeId} {v : Value} {q : List Value} : builtinA C .len (t :: r) (v :: q) k n H = optK (lenH C H t v) fun l => k (.int .i64 l) n H := nr rfl
@[simp ↓] theorem b_cap {t : TypeId} {r : List TypeId} {v : Value} {q : List Value} : builtinA C .cap (t :: r) (v :: q) k n H = capK C H t v (kInt k n H) := nr rfl
@[simp ↓] theorem b_copy {t u : TypeId} {d s : Value} : builtinA C .copy [t, u] [d, s] k n H = optK (copyA C H t d s) fun p => k (.int .i64 p.1) n p.2 := nr rfl
@[simp ↓] theorem b_delete {t : TypeId} {r : List TypeId} {m x : Value} : builtinA C .delete (t :: r) [m, x] k n H = delK C H t m x (kHp k (.tuple #[]) n) := nr rfl
@[simp ↓] theorem b_clear {t : TypeId} {r : List TypeId} {v : Value} {q : List Value} : builtinA C .clear (t :: r) (v :: q) k n H = clearK C H t v fun H' => k (.tuple #[]) n H' := nr rfl
@[simp ↓] theorem b_max {ts : List TypeId} {q q' : IntKind} {a b : Int} : builtinA C .max ts [.int q a, .int q' b] k n H = k (.int q (mxI a b)) n H := nr rfl
@[simp ↓] theorem b_min {ts : List TypeId} {q q' : IntKind} {a b : Int} : builtinA C .min ts [.int q a, .int q' b] k n H = k (.int q (mnI a b)) n H := nr rfl
@[simp ↓] theorem b_append {t u : TypeId} {s x : Value} : builtinA C .append [t, u] [s, x] k n H = (t = u ∧ appK C H t n s x k) := nr rfl
end
section
variable {P : Program} {H : Heap} {op : BinOp} {t : TypeId} {x : Value} {k : Value → Prop}
@[simp ↓] theorem h_int {q : IntKind} {b : Int} : binHK P H op t x (.int q b) k = binK P op t x (.int q b) k := nr (by cases op <;> cases x <;> first | rfl | (rename_i a; cases a <;> rfl))
@[simp ↓] theorem h_bool {b : Bool} : binHK P H op t x (.bool b) k = binK P op t x (.bool b) k := nr (by cases op <;> cases x <;> first | rfl | (rename_i a; cases a <;> rfl))
@[simp ↓] theorem h_string {b : ByteArray} : binHK P H op t x (.string b) k = binK P op t x (.string b) k := nr (by cases op <;> cases x <;> first | rfl | (rename_i a; cases a <;> rfl))
@[simp ↓] theorem h_agg {b : Array Value} : binHK P H op t x (.agg b) k = binK P op t x (.agg b) k := nr (by cases op <;> cases x <;> first | rfl | (rename_i a; cases a <;> rfl))
@[simp ↓] theorem h_slice {a : Option Addr} {l c : Nat} : binHK P H op t x (.slice a l c) k = binK P op t x (.slice a l c) k := nr (by cases op <;> cases x <;> first | rfl | (rename_i a; cases a <;> rfl))
@[simp ↓] theorem h_map {a : Option Nat} : binHK P H op t x (.map a) k = binK P op t x (.map a) k := nr (by cases op <;> cases x <;> first | rfl | (rename_i a; cases a <;> rfl))
@[simp ↓] theorem h_func {f : Fn} {a c : Array Value} : binHK P H op t x (.func f a c) k = binK P op t x (.func f a c) k := nr (by cases op <;> cases x <;> first | rfl | (rename_i a; cases a <;> rfl))
@[simp ↓] theorem h_nilFunc : binHK P H op t x .nilFunc k = binK P op t x .nilFunc k := nr (by cases op <;> cases x <;> first | rfl | (rename_i a; cases a <;> rfl))
@[simp ↓] theorem h_nilIface : binHK P H op t x .nilIface k = binK P op t x .nilIface k := nr (by cases op <;> cases x <;> first | rfl | (rename_i a; cases a <;> rfl))
@[simp ↓] theorem h_ptr0 : binHK P H op t x (.pointer none) k = binK P op t x (.pointer none) k := nr (by cases op <;> cases x <;> first | rfl | (rename_i a; cases a <;> rfl))
@[simp ↓] theorem h_ptr1 {b : Addr} : binHK P H op t (.pointer none) (.pointer (some b)) k = binK P op t (.pointer none) (.pointer (some b)) k := nr (by cases op <;> rfl)
theorem ptrK_new {p o q o' : Nat} {k : Bool → Prop} : ptrK P H t ⟨new p, o, none⟩ ⟨new q, o', none⟩ k = (ptrSz P t = true ∧ cellsO (H p) = true ∧ cellsO (H q) = true ∧ k (decide (p = q ∧ o = o'))) := by
  refine propext ⟨fun ⟨h1, p', a, q', b, e1, e2, h2, h3, h4⟩ => ?_, fun ⟨h1, h2, h3, h4⟩ => ⟨h1, p, o, q, o', rfl, rfl, h2, h3, h4⟩⟩
  simp only [Addr.mk.injEq, and_true] at e1 e2
  obtain ⟨e1, rfl⟩ := e1
  obtain ⟨e2, rfl⟩ := e2
  obtain rfl : p = p' := by unfold new at e1; omega
  obtain rfl : q = q' := by unfold new at e2; omega
  exact ⟨h1, h2, h3, h4⟩
@[simp ↓] theorem h_eql {p o q o' : Nat} : binHK P H .eql t (.pointer (some ⟨new p, o, none⟩)) (.pointer (some ⟨new q, o', none⟩)) k = (ptrSz P t = true ∧ cellsO (H p) = true ∧ cellsO (H q) = true ∧ k (.bool (decide (p = q ∧ o = o')))) := ptrK_new (k := fun r => k (.bool r))
@[simp ↓] theorem h_neq {p o q o' : Nat} : binHK P H .neq t (.pointer (some ⟨new p, o, none⟩)) (.pointer (some ⟨new q, o', none⟩)) k = (ptrSz P t = true ∧ cellsO (H p) = true ∧ cellsO (H q) = true ∧ k (.bool !(decide (p = q ∧ o = o')))) := ptrK_new (k := fun r => k (.bool !r))
@[simp] theorem cellsO_cells {cs : List Value} {T sz : Nat} : cellsO (.cells cs T sz) = true := nr rfl
@[simp] theorem cellsO_fixed {cs : List Value} {T sz : Nat} : cellsO (.fixed cs T sz) = true := nr rfl
end
section
variable {P : Program} {t : TypeId} {k : Value → Prop}
@[simp ↓] theorem i_add {i j : IntKind} {a b : Int} : binK P .add t (.int i a) (.int j b) k = (i = j ∧ k (.int i (i.wrap (a + b)))) := nr rfl
@[simp ↓] theorem i_sub {i j : IntKind} {a b : Int} : binK P .sub t (.int i a) (.int j b) k = (i = j ∧ k (.int i (i.wrap (a - b)))) := nr rfl
@[simp ↓] theorem i_mul {i j : IntKind} {a b : Int} : binK P .mul t (.int i a) (.int j b) k = (i = j ∧ k (.int i (i.wrap (a * b)))) := nr rfl
@[simp ↓] theorem i_eql {i j : IntKind} {a b : Int} : binK P .eql t (.int i a) (.int j b) k = (i = j ∧ k (.bool (a == b))) := nr rfl
@[simp ↓] theorem i_neq {i j : IntKind} {a b : Int} : binK P .neq t (.int i a) (.int j b) k = (i = j ∧ k (.bool (a != b))) := nr rfl
@[simp ↓] theorem i_lss {i j : IntKind} {a b : Int} : binK P .lss t (.int i a) (.int j b) k = (i = j ∧ k (.bool (decide (a < b)))) := nr rfl
@[simp ↓] theorem i_leq {i j : IntKind} {a b : Int} : binK P .leq t (.int i a) (.int j b) k = (i = j ∧ k (.bool (decide (a ≤ b)))) := nr rfl
@[simp ↓] theorem i_gtr {i j : IntKind} {a b : Int} : binK P .gtr t (.int i a) (.int j b) k = (i = j ∧ k (.bool (decide (a > b)))) := nr rfl
@[simp ↓] theorem i_geq {i j : IntKind} {a b : Int} : binK P .geq t (.int i a) (.int j b) k = (i = j ∧ k (.bool (decide (a ≥ b)))) := nr rfl
@[simp ↓] theorem i_quo {i j : IntKind} {a b : Int} : binK P .quo t (.int i a) (.int j b) k = (i = j ∧ b ≠ 0 ∧ k (.int i (i.wrap (a.tdiv b)))) := by
  simp only [binK, intA]; by_cases h : b = 0 <;> simp [h]
@[simp ↓] theorem i_rem {i j : IntKind} {a b : Int} : binK P .rem t (.int i a) (.int j b) k = (i = j ∧ b ≠ 0 ∧ k (.int i (a.tmod b))) := by
  simp only [binK, intA]; by_cases h : b = 0 <;> simp [h]
theorem str_beq (x y : ByteArray) : (x.toList == y.toList) = decide (x = y) := by
  rw [ByteArray.toList_eq, ByteArray.toList_eq, Bool.eq_iff_iff, beq_iff_eq, decide_eq_true_iff]
  exact ⟨fun h => by obtain ⟨⟨a⟩⟩ := x; obtain ⟨⟨b⟩⟩ := y; simp only at h; rw [h], fun h => by rw [h]⟩
@[simp ↓] theorem s_eql {x y : ByteArray} : binK P .eql t (.string x) (.string y) k = k (.bool (decide (x = y))) := nr (by rw [← str_beq]; rfl)
@[simp ↓] theorem s_neq {x y : ByteArray} : binK P .neq t (.string x) (.string y) k = k (.bool !(decide (x = y))) := nr (by rw [← str_beq]; rfl)
@[simp ↓] theorem s_lss {x y : ByteArray} : binK P .lss t (.string x) (.string y) k = k (.bool (Op.bytesLess x.toList y.toList)) := nr rfl
@[simp ↓] theorem s_leq {x y : ByteArray} : binK P .leq t (.string x) (.string y) k = k (.bool (Op.bytesLess x.toList y.toList || x.toList == y.toList)) := nr rfl
@[simp ↓] theorem s_gtr {x y : ByteArray} : binK P .gtr t (.string x) (.string y) k = k (.bool !(Op.bytesLess x.toList y.toList || x.toList == y.toList)) := nr rfl
@[simp ↓] theorem s_geq {x y : ByteArray} : binK P .geq t (.string x) (.string y) k = k (.bool !(Op.bytesLess x.toList y.toList)) := nr rfl
@[simp ↓] theorem s_add {x y : ByteArray} : binK P .add t (.string x) (.string y) k = (x.size + y.size ≤ 9223372036854775807 ∧ k (.string (x ++ y))) := by
  simp only [binK, strA]; exact optK_ite _ _ _
@[simp ↓] theorem e_ptr {a b : Option Addr} : binK P .eql t (.pointer a) (.pointer b) k = optK (eqA P t (.pointer a) (.pointer b)) (fun b => k (.bool b)) := nr rfl
@[simp ↓] theorem n_ptr {a b : Option Addr} : binK P .neq t (.pointer a) (.pointer b) k = optK (eqA P t (.pointer a) (.pointer b)) (fun b => k (.bool !b)) := nr rfl
@[simp ↓] theorem e_slc {a b : Option Addr} {l c l' c' : Nat} : binK P .eql t (.slice a l c) (.slice b l' c') k = optK (eqA P t (.slice a l c) (.slice b l' c')) (fun b => k (.bool b)) := nr rfl
@[simp ↓] theorem n_slc {a b : Option Addr} {l c l' c' : Nat} : binK P .neq t (.slice a l c) (.slice b l' c') k = optK (eqA P t (.slice a l c) (.slice b l' c')) (fun b => k (.bool !b)) := nr rfl
@[simp ↓] theorem e_map {a b : Option Nat} : binK P .eql t (.map a) (.map b) k = optK (eqA P t (.map a) (.map b)) (fun b => k (.bool b)) := nr rfl
@[simp ↓] theorem n_map {a b : Option Nat} : binK P .neq t (.map a) (.map b) k = optK (eqA P t (.map a) (.map b)) (fun b => k (.bool !b)) := nr rfl
@[simp ↓] theorem e_bool {a b : Bool} : binK P .eql t (.bool a) (.bool b) k = optK (eqA P t (.bool a) (.bool b)) (fun b => k (.bool b)) := nr rfl
@[simp ↓] theorem n_bool {a b : Bool} : binK P .neq t (.bool a) (.bool b) k = optK (eqA P t (.bool a) (.bool b)) (fun b => k (.bool !b)) := nr rfl
@[simp ↓] theorem e_fn1 {f : Fn} {x y : Array Value} : binK P .eql t (.func f x y) (.nilFunc) k = optK (eqA P t (.func f x y) (.nilFunc)) (fun b => k (.bool b)) := nr rfl
@[simp ↓] theorem n_fn1 {f : Fn} {x y : Array Value} : binK P .neq t (.func f x y) (.nilFunc) k = optK (eqA P t (.func f x y) (.nilFunc)) (fun b => k (.bool !b)) := nr rfl
@[simp ↓] theorem e_fn2 : binK P .eql t (.nilFunc) (.nilFunc) k = optK (eqA P t (.nilFunc) (.nilFunc)) (fun b => k (.bool b)) := nr rfl
@[simp ↓] theorem n_fn2 : binK P .neq t (.nilFunc) (.nilFunc) k = optK (eqA P t (.nilFunc) (.nilFunc)) (fun b => k (.bool !b)) := nr rfl
@[simp ↓] theorem e_fn3 {f : Fn} {x y : Array Value} : binK P .eql t (.nilFunc) (.func f x y) k = optK (eqA P t (.nilFunc) (.func f x y)) (fun b => k (.bool b)) := nr rfl
@[simp ↓] theorem n_fn3 {f : Fn} {x y : Array Value} : binK P .neq t (.nilFunc) (.func f x y) k = optK (eqA P t (.nilFunc) (.func f x y)) (fun b => k (.bool !b)) := nr rfl
end
def lenK (k : TK) (v : Value) : Option Int :=
  match k, v with
  | .string, .string s => some s.size
  | .array n, _ => some n
  | .slice, .slice _ l _ => some l
  | .map, .map none => some 0
  | _, _ => none
@[simp] theorem lenK_string {s : ByteArray} : lenK .string (.string s) = some (s.size : Int) := nr rfl
@[simp] theorem lenK_array {n : Nat} {v : Value} : lenK (.array n) v = some (n : Int) := nr rfl
@[simp] theorem lenK_slice {A : Option Addr} {l c : Nat} : lenK .slice (.slice A l c) = some (l : Int) := nr rfl
@[simp] theorem lenK_map0 : lenK .map (.map none) = some 0 := nr rfl
def eqK (k : TK) (x y : Value) : Option Bool :=
  match k, x, y with
  | .bool, .bool a, .bool b => some (a == b)
  | .pointer, .pointer none, .pointer b => some b.isNone
  | .pointer, .pointer (some _), .pointer none => some false
  | .slice, .slice none _ _, .slice b _ _ => some b.isNone
  | .slice, .slice (some _) _ _, .slice none _ _ => some false
  | .map, .map none, .map b => some b.isNone
  | .map, .map (some _), .map none => some false
  | .func, .nilFunc, .nilFunc => some true
  | .func, .nilFunc, .func _ _ _ => some false
  | .func, .func _ _ _, .nilFunc => some false
  | _, _, _ => none
@[simp] theorem eqA_eqK {P : Program} {t : TypeId} {x y : Value} : eqA P t x y = eqK (tk P t) x y := nr rfl
@[simp] theorem eqK_bool {a b : Bool} : eqK .bool (.bool a) (.bool b) = some (a == b) := nr rfl
@[simp] theorem eqK_ptr0 {b : Option Addr} : eqK .pointer (.pointer none) (.pointer b) = some b.isNone := nr rfl
@[simp] theorem eqK_ptr1 {a : Addr} : eqK .pointer (.pointer (some a)) (.pointer none) = some false := nr rfl
@[simp] theorem eqK_slc0 {b : Option Addr} {l c l' c' : Nat} : eqK .slice (.slice none l c) (.slice b l' c') = some b.isNone := nr rfl
@[simp] theorem eqK_slc1 {a : Option Addr} {l c l' c' : Nat} : eqK .slice (.slice a l c) (.slice none l' c') = some a.isNone := nr (by cases a <;> rfl)
@[simp] theorem eqK_ptr2 {a : Option Addr} : eqK .pointer (.pointer a) (.pointer none) = some a.isNone := nr (by cases a <;> rfl)
@[simp] theorem eqK_map0 {b : Option Nat} : eqK .map (.map none) (.map b) = some b.isNone := nr rfl
@[simp] theorem eqK_map1 {a : Option Nat} : eqK .map (.map a) (.map none) = some a.isNone := nr (by cases a <;> rfl)
@[simp] theorem eqK_fn0 : eqK .func .nilFunc .nilFunc = some true := nr rfl
@[simp] theorem eqK_fn1 {f : Fn} {x y : Array Value} : eqK .func .nilFunc (.func f x y) = some false := nr rfl
@[simp] theorem eqK_fn2 {f : Fn} {x y : Array Value} : eqK .func (.func f x y) .nilFunc = some false := nr rfl
/-! ### Elements of array values, bytes of strings, conversions, parts of slices -/
def arrT (P : Program) (t : TypeId) : Option (Nat × Nat × Nat) :=
  match P.underlying t with
  | some (.array n e) => match P.info? e with
    | some i => some (e, n, i.size)
    | none => none
  | _ => none
def whenS (q : TK) (A : Prop) : Prop := match q with | .string => A | _ => False
def whenSl (q : TK) (A : Prop) : Prop := match q with | .slice => A | _ => False
theorem whenS_congr {q q' : TK} (h : mk q = q') (A : Prop) : whenS q A = whenS q' A := by rw [← h]; rfl
theorem whenSl_congr {q q' : TK} (h : mk q = q') (A : Prop) : whenSl q A = whenSl q' A := by rw [← h]; rfl
attribute [congr] whenS_congr whenSl_congr
@[simp ↓] theorem whenS_yes {A : Prop} : whenS .string A = A := nr rfl
@[simp ↓] theorem whenSl_yes {A : Prop} : whenSl .slice A = A := nr rfl
attribute [simp] whenS_yes whenSl_yes
/-- A byte of a string. -/
def bt (s : ByteArray) (i : Int) : Int := (s[i.toNat]?.getD 0).toNat
theorem idxA_congr {P P' : Program} {t : TypeId} {x x' : Value} {i i' : Int} (h : mk P = P') (h2 : mk x = x') (h3 : mk i = i') (k : Value → Prop) : idxA P t x i k = idxA P' t x' i' k := by rw [← h, ← h2, ← h3]; rfl
theorem sliceA_congr {P P' : Program} {t : TypeId} {x x' : Value} {lo lo' hi hi' : Option (IntKind × Int)} (h : mk P = P') (h2 : mk x = x') (h3 : mk lo = lo') (h4 : mk hi = hi') (k : Value → Prop) : sliceA P t x lo hi k = sliceA P' t x' lo' hi' k := by rw [← h, ← h2, ← h3, ← h4]; rfl
attribute [congr] idxA_congr sliceA_congr
@[simp] theorem idxA_agg {P : Program} {t : TypeId} {cs : Array Value} {i : Int} {k : Value → Prop} : idxA P t (.agg cs) i k = optK (arrT P t) fun q => (0 ≤ i ∧ i < q.2.1) ∧ optK (partA P q.1 cs.toList (i.toNat * q.2.2)) k := by
  unfold idxA arrT elemR
  cases P.underlying t with
  | none => rfl
  | some d => cases d <;> first | rfl | (rename_i m e; simp only; cases P.info? e <;> rfl)
@[simp] theorem idxA_str {P : Program} {t : TypeId} {s : ByteArray} {i : Int} {k : Value → Prop} : idxA P t (.string s) i k = whenS (tk P t) ((0 ≤ i ∧ i < s.size) ∧ k (.int .u8 (bt s i))) := by
  have e : (∃ h : 0 ≤ i ∧ i.toNat < s.size, k (.int .u8 (s[i.toNat]'h.2).toNat)) = ((0 ≤ i ∧ i < s.size) ∧ k (.int .u8 (bt s i))) := by
    apply propext
    constructor
    · rintro ⟨⟨h1, h2⟩, h3⟩
      refine ⟨⟨h1, by omega⟩, ?_⟩
      simpa [bt, h2] using h3
    · rintro ⟨⟨h1, h2⟩, h3⟩
      have h4 : i.toNat < s.size := by omega
      refine ⟨⟨h1, h4⟩, ?_⟩
      simpa [bt, h4] using h3
  unfold idxA tk whenS
  cases P.underlying t with
  | none => rfl
  | some d => cases d <;> first | rfl | exact e
@[simp] theorem bndA_none {ρ : Operand → Option Value} : bndA ρ none = some none := nr rfl
@[simp] theorem bndA_some' {ρ : Operand → Option Value} {x : Operand} : bndA ρ (some x) = (ρ x).bind fun v => (asI v).map some := nr rfl
@[simp] theorem lowI_none : lowI none = 0 := nr rfl
@[simp] theorem lowI_some {q : IntKind} {i : Int} : lowI (some (q, i)) = i := nr rfl
@[simp] theorem highI_none {l : Nat} : highI none l = (l : Int) := nr rfl
@[simp] theorem highI_some {q : IntKind} {i : Int} {l : Nat} : highI (some (q, i)) l = i := nr rfl
@[simp] theorem sliceA_str {P : Program} {t : TypeId} {s : ByteArray} {lo hi : Option (IntKind × Int)} {k : Value → Prop} : sliceA P t (.string s) lo hi k =
    whenS (tk P t) ((0 ≤ lowI lo ∧ lowI lo ≤ highI hi s.size ∧ highI hi s.size ≤ s.size) ∧ k (.string (s.extract (lowI lo).toNat (highI hi s.size).toNat))) := by
  unfold sliceA whenS; cases tk P t <;> rfl
/-- What a conversion does: to a kind of integers, or of a string nothing. -/
def cvt (P : Program) (src dst : TypeId) : Option (Option IntKind) :=
  match P.underlying src, P.underlying dst with
  | some (.int _), some (.int k) => some (some k)
  | some .string, some .string => some none
  | _, _ => none
def convV (v : Value) (q : Option IntKind) : Option Value :=
  match q, v with
  | some k, .int _ n => some (.int k (k.wrap n))
  | none, .string s => some (.string s)
  | _, _ => none
@[simp] theorem convV_int {k q : IntKind} {n : Int} : convV (.int q n) (some k) = some (.int k (k.wrap n)) := nr rfl
@[simp] theorem convV_str {s : ByteArray} : convV (.string s) none = some (.string s) := nr rfl
theorem convA_eq {P : Program} {src dst : TypeId} {v : Value} {q : Option IntKind} (h : cvt P src dst = some q) : convA P src dst v = convV v q := by
  unfold cvt at h
  unfold convA
  split at h
  · rename_i h1 h2
    obtain rfl := Option.some.inj h
    rw [h1, h2]
    cases v <;> rfl
  · rename_i h1 h2
    obtain rfl := Option.some.inj h
    rw [h1, h2]
    cases v <;> rfl
  · cases h
/-! ### Memory -/
@[simp] theorem gcell_fixed {cs : List Value} {T sz i : Nat} : gcell (.fixed cs T sz) i = cs[i]? := nr rfl
@[simp] theorem gcell_cells {cs : List Value} {T sz i : Nat} : gcell (.cells cs T sz) i = cs[i]? := nr rfl
@[simp] theorem gcell_dead {i : Nat} : gcell .dead i = none := nr rfl
theorem new_odd (k : Nat) : new k % 2 = 1 := by unfold new; omega
theorem new_half (k : Nat) : new k / 2 = k := by unfold new; omega
theorem old_even (k : Nat) : old k % 2 = 0 := by unfold old; omega
theorem old_half (k : Nat) : old k / 2 = k := by unfold old; omega
@[simp] theorem get_new {C : Ctx} {H : Heap} {k o : Nat} : get C H ⟨new k, o, none⟩ = gcell (H k) o := by
  simp only [get, new_odd, new_half]; rfl
@[simp] theorem get_old {C : Ctx} {H : Heap} {b o : Nat} : get C H ⟨old b, o, none⟩ = (C.w0.cell? ⟨b, o, none⟩).map emb := by
  simp only [get, old_even, old_half]; rfl
@[simp] theorem store_new {C : Ctx} {H : Heap} {t : TypeId} {k o : Nat} {v : Value} : storeA C H t ⟨new k, o, none⟩ v = match shp C.P t with
    | some (_, s) => if v.cells.size = s ∧ oneAll v.cells.toList = true then (match H k with
      | .cells cs T sz => if o + s ≤ cs.length then some (hset k (.cells (setN cs o v.cells.toList) T sz) H) else none
      | _ => none) else none
    | none => none := by
  simp only [storeA, new_odd, new_half]
  cases shp C.P t with
  | none => rfl
  | some p =>
    obtain ⟨b, s⟩ := p
    by_cases h1 : v.cells.size = s <;> by_cases h2 : oneAll v.cells.toList = true <;> cases H k <;> simp [h1, h2]
@[simp] theorem hset_if {k i : Nat} {o : AObj} {H : Heap} : hset k o H i = if i = k then o else H i := nr rfl
theorem lt_ne {i n : Nat} (h : i < n) : (i = n) = False := by simp; omega
theorem lt_ne_add {i n c : Nat} (h : i < n) : (i = n + c) = False := by simp; omega
@[simp] theorem hset_hset {k : Nat} {o o' : AObj} {H : Heap} : hset k o (hset k o' H) = hset k o H := by
  funext i; by_cases h : i = k <;> simp [hset, h]
@[simp ↓] theorem lk_cons {t s : Nat} {v : Value} {r : Fr} : lk t ((s, v) :: r) = if t = s then some v else lk t r := nr rfl
@[simp] theorem lk_nil {t : Nat} : lk t [] = none := nr rfl
@[simp ↓] theorem put_some {d : Tmp} {v : Value} {fr : Fr} : put (some d) v fr = (d, v) :: fr := nr rfl
@[simp ↓] theorem put_none {v : Value} {fr : Fr} : put none v fr = fr := nr rfl
@[simp] theorem asB_bool {b : Bool} : asB (.bool b) = some b := nr rfl
@[simp] theorem asA_ptr {a : Addr} : asA (.pointer (some a)) = some a := nr rfl
@[simp] theorem asI_int {k : IntKind} {n : Int} : asI (.int k n) = some (k, n) := nr rfl
@[simp] theorem asF_func {f : FuncId} {x y : Array Value} : asF (.func (.func f) x y) = some (f, x.toList, y.toList) := nr rfl
@[simp] theorem asS_slice {a : Option Addr} {l c : Nat} : asS (.slice a l c) = some (a, l, c) := nr rfl
@[simp] theorem asG_agg {cs : Array Value} : asG (.agg cs) = some cs.toList := nr rfl
@[simp] theorem asT_tuple {cs : Array Value} : asT (.tuple cs) = some cs.toList := nr rfl
@[simp ↓] theorem params_nil {i : Nat} : params i [] = [] := nr rfl
@[simp ↓] theorem params_cons {i : Nat} {v : Value} {r : List Value} : params i (v :: r) = (i, v) :: params (i + 1) r := nr rfl
@[simp ↓] theorem ev_tmp {fr : Fr} {t : Tmp} : ev fr (.tmp t) = lk t fr := nr rfl
@[simp ↓] theorem ev_func {fr : Fr} {f : FuncId} : ev fr (.func f) = some (.func (.func f) #[] #[]) := nr rfl
@[simp ↓] theorem ev_global {fr : Fr} {g : Nat} : ev fr (.global g) = some (.pointer (some ⟨old g, 0, none⟩)) := nr rfl
@[simp ↓] theorem ev_int {fr : Fr} {k : IntKind} {n : Int} : ev fr (.const (.int k n)) = some (.int k n) := nr rfl
@[simp ↓] theorem ev_bool {fr : Fr} {b : Bool} : ev fr (.const (.bool b)) = some (.bool b) := nr rfl
@[simp ↓] theorem ev_string {fr : Fr} {s : ByteArray} : ev fr (.const (.string s)) = some (.string s) := nr rfl
@[simp ↓] theorem ev_ptr0 {fr : Fr} : ev fr (.const (.pointer none)) = some (.pointer none) := nr rfl
@[simp ↓] theorem ev_slice0 {fr : Fr} {l c : Nat} : ev fr (.const (.slice none l c)) = some (.slice none l c) := nr rfl
@[simp ↓] theorem ev_map0 {fr : Fr} : ev fr (.const (.map none)) = some (.map none) := nr rfl
@[simp ↓] theorem ev_func0 {fr : Fr} : ev fr (.const .nilFunc) = some .nilFunc := nr rfl
@[simp ↓] theorem ev_iface0 {fr : Fr} : ev fr (.const .nilIface) = some .nilIface := nr rfl
@[simp] theorem nilA_ptr {a : Addr} : nilA (.pointer (some a)) = some (.pointer (some a)) := nr rfl
@[simp] theorem nilA_func {f : FuncId} {x y : Array Value} : nilA (.func (.func f) x y) = some (.func (.func f) x y) := nr rfl
@[simp] theorem unA_not {b : Bool} : unA .not (.bool b) = some (.bool !b) := nr rfl
@[simp] theorem unA_neg {k : IntKind} {x : Int} : unA .neg (.int k x) = some (.int k (k.wrap (0 - x))) := nr rfl
@[simp] theorem partsA_nil {ρ : Operand → Option Value} : partsA ρ [] = some [] := nr rfl
@[simp] theorem partsA_cons {ρ : Operand → Option Value} {i : Nat} {x : Operand} {r : List (Nat × Operand)} : partsA ρ ((i, x) :: r) = (ρ x).bind fun v => (partsA ρ r).map ((i, v) :: ·) := by
  simp only [partsA]; cases ρ x <;> cases partsA ρ r <;> rfl
@[simp] theorem argsA_nil {ρ : Operand → Option Value} : argsA ρ [] = some [] := nr rfl
@[simp] theorem argsA_cons {ρ : Operand → Option Value} {x : Operand} {r : List Operand} : argsA ρ (x :: r) = (ρ x).bind fun v => (argsA ρ r).map (v :: ·) := by
  simp only [argsA]; cases ρ x <;> cases argsA ρ r <;> rfl
@[simp ↓] theorem resAs_nil {C : Ctx} {fr : Fr} {H : Heap} : resAs C fr H [] = some [] := nr rfl
@[simp ↓] theorem resAs_cons {C : Ctx} {fr : Fr} {H : Heap} {r : ResultVar} {l : List ResultVar} : resAs C fr H (r :: l) = (resA C fr H r).bind fun v => (resAs C fr H l).map (v :: ·) := by
  simp only [resAs]; cases resA C fr H r <;> cases resAs C fr H l <;> rfl
def resP (vs : List Value) : Value := match vs with | [v] => v | vs => .tuple vs.toArray
@[simp] theorem resP_one {v : Value} : resP [v] = v := nr rfl
@[simp] theorem resP_nil : resP [] = .tuple #[] := nr rfl
@[simp] theorem resP_two {u v : Value} {r : List Value} : resP (u :: v :: r) = .tuple (u :: v :: r).toArray := nr rfl
@[simp ↓] theorem resV_eq {C : Ctx} {fr : Fr} {H : Heap} {l : List ResultVar} : resV C fr H l = (resAs C fr H l).map resP := by
  unfold resV
  split
  · rename_i h; rw [h]; rfl
  · rename_i vs h1 h2
    rw [h2]
    simp only [Option.map_some, resP]
  · rename_i h; rw [h]; rfl
@[simp ↓] theorem resV_arr {C : Ctx} {fr : Fr} {H : Heap} {l : List ResultVar} : resV C fr H l.toArray.toList = (resAs C fr H l).map resP := by rw [resV_eq]
@[simp ↓] theorem resA_tmp {C : Ctx} {fr : Fr} {H : Heap} {t : Tmp} : resA C fr H (.tmp t) = lk t fr := nr rfl
@[simp ↓] theorem resA_cell {C : Ctx} {fr : Fr} {H : Heap} {a t : Tmp} : resA C fr H (.cell a t) = (lk a fr).bind fun v => (asA v).bind fun b => loadA C H t b := by
  simp only [resA]
  split
  · rename_i b h; rw [h]; rfl
  · rename_i h
    cases hl : lk a fr with
    | none => rfl
    | some v =>
      cases v with
      | pointer p => cases p with
        | none => rfl
        | some b => exact absurd hl (h b)
      | _ => rfl
theorem lenA_def {P : Program} {t : TypeId} {v : Value} : lenA P t v = lenK (tk P t) v := nr rfl
/-- A length, the type's kind given. -/
def lenHK (H : Heap) (q : TK) (v : Value) : Option Int :=
  match q, v with
  | .map, .map (some r) => if r % 2 = 1 then match H (r / 2) with
    | .map es _ => some es.length
    | _ => none
    else none
  | q, v => lenK q v
theorem lenHK_map {H : Heap} {r : Nat} : lenHK H .map (.map (some r)) = lenM H (.map (some r)) := rfl
@[simp] theorem lenH_def {C : Ctx} {H : Heap} {t : TypeId} {v : Value} : lenH C H t v = lenHK H (tk C.P t) v := by
  unfold lenH
  rw [lenA_def]
  cases hk : tk C.P t with
  | map =>
    obtain ⟨k, e, hu⟩ := tk_map hk
    have hm : mapT C.P t = some (k, e) := by unfold mapT; rw [hu]
    simp only [hm]
    cases v with
    | map r => cases r with
      | none => rfl
      | some r => rfl
    | _ => rfl
  | _ =>
    have hm : mapT C.P t = none := by
      unfold mapT
      split
      · rename_i hu; simp [tk, hu] at hk
      · rfl
    simp only [hm]
    cases v <;> first | rfl | (simp only [lenHK, lenK])
def lenO : AObj → Option Int
  | .map es _ => some es.length
  | _ => none
@[simp] theorem lenO_map {es : List MapEntry} {c : Nat} : lenO (.map es c) = some (es.length : Int) := nr rfl
@[simp] theorem lenHK_new {H : Heap} {j : Nat} : lenHK H .map (.map (some (new j))) = lenO (H j) := by
  simp only [lenHK, new_odd, new_half, lenO]
  cases H j <;> rfl
@[simp] theorem lenHK_map0 {H : Heap} : lenHK H .map (.map none) = some 0 := nr rfl
@[simp] theorem lenHK_string {H : Heap} {v : Value} : lenHK H .string v = lenK .string v := nr (by cases v <;> rfl)
@[simp] theorem lenHK_slice {H : Heap} {v : Value} : lenHK H .slice v = lenK .slice v := nr (by cases v <;> rfl)
@[simp] theorem lenHK_array {H : Heap} {m : Nat} {v : Value} : lenHK H (.array m) v = lenK (.array m) v := nr (by cases v <;> rfl)
@[simp] theorem fillA_nil {pl : List (Nat × Nat)} {cs : List Value} : fillA pl cs [] = some cs := nr rfl
@[simp] theorem fillA_cons {pl : List (Nat × Nat)} {cs : List Value} {i : Nat} {v : Value} {r : List (Nat × Value)} : fillA pl cs ((i, v) :: r) = (pl[i]?).bind fun p => if v.cells.size = p.2 ∧ p.1 + p.2 ≤ cs.length then fillA pl (setN cs p.1 v.cells.toList) r else none := by
  simp only [fillA]; cases pl[i]? <;> rfl
@[simp] theorem setN_nil {cs : List Value} {i : Nat} : setN cs i [] = cs := nr rfl
@[simp] theorem setN_cons {cs : List Value} {i : Nat} {v : Value} {r : List Value} : setN cs i (v :: r) = setN (cs.set i v) (i + 1) r := nr rfl
@[simp] theorem reps_zero {z : List Value} : reps 0 z = [] := nr rfl
@[simp] theorem reps_succ {n : Nat} {z : List Value} : reps (n + 1) z = z ++ reps n z := nr rfl
@[simp] theorem getN_zero {C : Ctx} {H : Heap} {a : Addr} {i : Nat} : getN C H a 0 i = some [] := nr rfl
@[simp] theorem getN_succ {C : Ctx} {H : Heap} {a : Addr} {k i : Nat} : getN C H a (k + 1) i = (get C H (a.add i)).bind fun v => (getN C H a k (i + 1)).map (v :: ·) := by
  simp only [getN]; cases get C H (a.add i) <;> cases getN C H a k (i + 1) <;> rfl
def loadS (C : Ctx) (H : Heap) (a : Addr) (p : Bool × Nat) : Option Value := if p.1 then (getN C H a p.2 0).map fun l => .agg l.toArray else get C H a
@[simp] theorem loadS_agg {C : Ctx} {H : Heap} {a : Addr} {s : Nat} : loadS C H a (true, s) = (getN C H a s 0).map fun l => .agg l.toArray := nr rfl
@[simp] theorem loadS_one {C : Ctx} {H : Heap} {a : Addr} {s : Nat} : loadS C H a (false, s) = get C H a := nr rfl
theorem loadA_eq {C : Ctx} {H : Heap} {t : TypeId} {a : Addr} : loadA C H t a = (shp C.P t).bind (loadS C H a) := by
  unfold loadA
  cases shp C.P t with
  | none => rfl
  | some p =>
    obtain ⟨b, s⟩ := p
    cases b with
    | false => rfl
    | true => simp only [Option.bind_some, loadS_agg]; cases getN C H a s 0 <;> rfl
@[simp] theorem loadA_at {C : Ctx} {H : Heap} {t : TypeId} {b o : Nat} : loadA C H t ⟨b, o, none⟩ = (shp C.P t).bind (loadS C H ⟨b, o, none⟩) := loadA_eq
def partS (cs : List Value) (off : Nat) (p : Bool × Nat) : Option Value := if p.1 then some (.agg ((cs.drop off).take p.2).toArray) else cs[off]?
@[simp] theorem partS_agg {cs : List Value} {off s : Nat} : partS cs off (true, s) = some (.agg ((cs.drop off).take s).toArray) := nr rfl
@[simp] theorem partS_one {cs : List Value} {off s : Nat} : partS cs off (false, s) = cs[off]? := nr rfl
@[simp] theorem partA_eq {P : Program} {t : TypeId} {cs : List Value} {off : Nat} : partA P t cs off = (shp P t).bind (partS cs off) := by
  unfold partA
  cases shp P t with
  | none => rfl
  | some p => obtain ⟨b, s⟩ := p; cases b <;> rfl
attribute [simp] Addr.add_lit
@[simp] theorem cells_agg {cs : Array Value} : (Value.agg cs).cells = cs := nr rfl
@[simp] theorem cells_bool {b : Bool} : (Value.bool b).cells = #[(Value.bool b)] := nr rfl
@[simp] theorem one_bool {b : Bool} : (Value.bool b).oneCell' = true := nr rfl
@[simp] theorem cells_int {k : IntKind} {n : Int} : (Value.int k n).cells = #[(Value.int k n)] := nr rfl
@[simp] theorem one_int {k : IntKind} {n : Int} : (Value.int k n).oneCell' = true := nr rfl
@[simp] theorem cells_float {k : FloatKind} {n : Nat} : (Value.float k n).cells = #[(Value.float k n)] := nr rfl
@[simp] theorem one_float {k : FloatKind} {n : Nat} : (Value.float k n).oneCell' = true := nr rfl
@[simp] theorem cells_string {s : ByteArray} : (Value.string s).cells = #[(Value.string s)] := nr rfl
@[simp] theorem one_string {s : ByteArray} : (Value.string s).oneCell' = true := nr rfl
@[simp] theorem cells_ptr {a : Option Addr} : (Value.pointer a).cells = #[(Value.pointer a)] := nr rfl
@[simp] theorem one_ptr {a : Option Addr} : (Value.pointer a).oneCell' = true := nr rfl
@[simp] theorem cells_slice {a : Option Addr} {l c : Nat} : (Value.slice a l c).cells = #[(Value.slice a l c)] := nr rfl
@[simp] theorem one_slice {a : Option Addr} {l c : Nat} : (Value.slice a l c).oneCell' = true := nr rfl
@[simp] theorem cells_map {r : Option Nat} : (Value.map r).cells = #[(Value.map r)] := nr rfl
@[simp] theorem one_map {r : Option Nat} : (Value.map r).oneCell' = true := nr rfl
@[simp] theorem cells_func {f : Fn} {x y : Array Value} : (Value.func f x y).cells = #[(Value.func f x y)] := nr rfl
@[simp] theorem one_func {f : Fn} {x y : Array Value} : (Value.func f x y).oneCell' = true := nr rfl
@[simp] theorem cells_nilFunc  : (Value.nilFunc).cells = #[(Value.nilFunc)] := nr rfl
@[simp] theorem one_nilFunc  : (Value.nilFunc).oneCell' = true := nr rfl
@[simp] theorem cells_iface {t : TypeId} {v : Value} : (Value.iface t v).cells = #[(Value.iface t v)] := nr rfl
@[simp] theorem one_iface {t : TypeId} {v : Value} : (Value.iface t v).oneCell' = true := nr rfl
@[simp] theorem cells_nilIface  : (Value.nilIface).cells = #[(Value.nilIface)] := nr rfl
@[simp] theorem one_nilIface  : (Value.nilIface).oneCell' = true := nr rfl
@[simp] theorem oneAll_nil : oneAll [] = true := nr rfl
@[simp] theorem oneAll_cons {v : Value} {r : List Value} : oneAll (v :: r) = (v.oneCell' && oneAll r) := nr rfl
/-! ### Maps -/
@[simp] theorem cellIs_int {k : IntKind} {a b : Int} : cellIs (.int k a) (.int k b) = (a == b) := by simp [cellIs]
@[simp] theorem cellIs_string {a b : ByteArray} : cellIs (.string a) (.string b) = decide (a = b) := nr rfl
@[simp] theorem cellIs_bool {a b : Bool} : cellIs (.bool a) (.bool b) = (a == b) := nr rfl
@[simp] theorem cellsIs_nil : cellsIs [] [] = true := nr rfl
@[simp] theorem cellsIs_cons {a b : Value} {r s : List Value} : cellsIs (a :: r) (b :: s) = (cellIs a b && cellsIs r s) := nr rfl
@[simp] theorem keyIs_agg {xs ys : Array Value} : keyIs (.agg xs) (.agg ys) = cellsIs xs.toList ys.toList := nr rfl
@[simp] theorem keyIs_int {k : IntKind} {a b : Int} : keyIs (.int k a) (.int k b) = (a == b) := by simp [keyIs]
@[simp] theorem keyIs_string {a b : ByteArray} : keyIs (.string a) (.string b) = decide (a = b) := nr rfl
@[simp] theorem keyIs_bool {a b : Bool} : keyIs (.bool a) (.bool b) = (a == b) := nr rfl
@[simp] theorem findE_nil {key : Value} {i : Nat} : findE key [] i = none := nr rfl
@[simp] theorem findE_cons {key : Value} {e : MapEntry} {es : List MapEntry} {i : Nat} : findE key (e :: es) i = if keyIs key e.key then some (i, e) else findE key es (i + 1) := nr rfl
@[simp] theorem lkV_some {ok : Bool} {z : Value} {i : Nat} {e : MapEntry} : lkV ok z (some (i, e)) = if ok then .tuple #[e.val, .bool true] else e.val := nr rfl
@[simp] theorem lkV_none {ok : Bool} {z : Value} : lkV ok z none = if ok then .tuple #[z, .bool false] else z := nr rfl
theorem KeysOk.int {P : Program} {kt : TypeId} {q : IntKind} (h : ∀ x : Int, primK P kt (.int q x) = true) {x : Int} {es : List MapEntry} (he : ∀ e ∈ es, ∃ y, e.key = .int q y) : KeysOk P kt (.int q x) es :=
  .prim (h x) fun e hm => by obtain ⟨y, hy⟩ := he e hm; rw [hy]; exact h y
theorem KeysOk.string {P : Program} {kt : TypeId} (h : ∀ x : ByteArray, primK P kt (.string x) = true) {x : ByteArray} {es : List MapEntry} (he : ∀ e ∈ es, ∃ y, e.key = .string y) : KeysOk P kt (.string x) es :=
  .prim (h x) fun e hm => by obtain ⟨y, hy⟩ := he e hm; rw [hy]; exact h y
section
variable {C : Ctx} {H : Heap} {t j kt et : Nat} {key v z : Value} {ok : Bool} {es : List MapEntry} {clock : Nat}
/-- A lookup in a map of the program's own. -/
theorem lookK_own (hj : H j = .map es clock) (ht : mapT C.P t = some (kt, et)) (hz : zeroV C.P et = some z) (hk : KeysOk C.P kt key es) {k : Value → Prop} : lookK C H t (.map (some (new j))) key ok k = k (lkV ok z (findE key es 0)) := by
  unfold lookK
  rw [ht, optK_some]
  have : mapEs C H (.map (some (new j))) = some es := by simp only [mapEs, mobj, new_odd, new_half, hj]; rfl
  rw [this, optK_some]
  simp only [hk, true_and]
  rw [show zeroV C.P (kt, et).2 = some z from hz, optK_some]
theorem lookK_nil (ht : mapT C.P t = some (kt, et)) (hz : zeroV C.P et = some z) (hk : KeysOk C.P kt key []) {k : Value → Prop} : lookK C H t (.map none) key ok k = k (lkV ok z none) := by
  unfold lookK
  rw [ht, optK_some]
  simp only [mapEs, optK_some, hk, true_and, findE]
  rw [show zeroV C.P (kt, et).2 = some z from hz, optK_some]
theorem updK_own (hj : H j = .map es clock) (ht : mapT C.P t = some (kt, et)) (hk : KeysOk C.P kt key es) {k : Heap → Prop} (h : k (hset j (.map (updE key v es clock) (updC key es clock)) H)) : updK C H t (.map (some (new j))) key v k :=
  ⟨j, es, clock, _, rfl, hj, ht, hk, h⟩
theorem delK_own (hj : H j = .map es clock) (ht : mapT C.P t = some (kt, et)) (hk : KeysOk C.P kt key es) {k : Heap → Prop} (h : k (hset j (.map (delE key es) clock) H)) : delK C H t (.map (some (new j))) key k :=
  ⟨j, es, clock, _, rfl, hj, ht, hk, h⟩
theorem rangeK_own (hj : H j = .map es clock) (ht : mapT C.P t = some (kt, et)) {k : AObj → Prop} (h : k (.iter (some j) clock [] clock)) : rangeK C H t (.map (some (new j))) k := by
  unfold rangeK
  rw [ht]
  exact .inr ⟨j, es, clock, rfl, hj, h⟩
theorem nextK_own {q since last : Nat} {seen : List Nat} (hj : H j = .iter (some q) since seen last) (hq : H q = .map es clock) (hno : ¬ (seen ≠ [] ∧ es ≠ [] ∧ ∀ e ∈ es, last ≤ e.born)) {k : Value → Heap → Prop}
    (h1 : (∀ e ∈ es, e.born ∉ seen → ¬ e.born < since) → k (.tuple #[.bool false]) H)
    (h2 : ∀ e ∈ es, e.born ∉ seen → k (.tuple #[.bool true, e.key, e.val]) (hset j (.iter (some q) since (seen ++ [e.born]) clock) H)) : nextK H (.pointer (some ⟨new j, 0, none⟩)) k :=
  ⟨j, some q, since, seen, last, rfl, hj, es, clock, hq, hno, h1, h2⟩
theorem entryK_own {q since last stamp : Nat} {seen : List Nat} {e : MapEntry} (hj : H j = .iter (some q) since seen last) (hl : seen.getLast? = some stamp) (hq : H q = .map es last) (hf : es.find? (fun e => e.born == stamp) = some e) {k : Value → Prop} (hk : k (.tuple #[e.key, e.val])) : entryK H (.pointer (some ⟨new j, 0, none⟩)) k :=
  ⟨j, q, since, seen, last, stamp, es, e, rfl, hj, hl, hq, hf, hk⟩
end
/-- A call, its frame's size and its results given. -/
theorem ACall.go {C : Ctx} {f : FuncId} {fn : Func} {c : Code} {args : List Value} {K : Value → Nat → Heap → Prop} {n N : Nat} {H : Heap} {rs : Array ResultVar} (hf : C.P.funcs[f]? = some fn) (hb : fn.body = some c)
    (hn : fn.ntmps = N) (hr : fn.results = rs) (hN : args.length ≤ N) (h : (∀ i, i < n → (H i).und n) → (∀ v ∈ args, Und n v) → ∀ J0, evC ⟨C, N, n, J0⟩ c (bpost C n rs.toList K) n (params 0 args) H) : ACall C f args K n H := by
  subst hn; subst hr
  exact ACall.enter hf hb hN fun hU hu J0 => evC_sound _ _ _ _ _ (h hU hu J0)
theorem hset_lt {i k : Nat} (h : i < k) (o : AObj) (H : Heap) : hset k o H i = H i := hset_ne (Nat.ne_of_lt h) o H
/-- A flat result, and the heap as it was. -/
theorem Fin.same {n0 n : Nat} {K : Value → Nat → Heap → Prop} {r : Value} {H0 H : Heap} (hU : ∀ i, i < n0 → (H0 i).und n0) (hu : Und n0 r) (hn : n0 ≤ n) (hH : ∀ i, i < n0 → H i = H0 i) (hk : K r n0 H0) : Fin n0 K r n H :=
  .inr ⟨id, n0, H0, r, ⟨Nat.le_refl _, fun _ _ => rfl, fun i hi => Nat.lt_of_lt_of_le hi hn, fun i j _ _ _ _ h => h, fun i hi => .inr ⟨hU i hi, by rw [AObj.sub_id]; exact hH i hi⟩⟩, (sub_id r).symm, hu, hk⟩
end Go.Aw
