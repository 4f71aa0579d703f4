/-
  The abstract machine, part 6: all operations, regions that don't draw, the begin and the end of a call.
-/
import Derived.Test.YtmgadjflgiokeaaAw5m
import Derived.LaidEqlPtr
set_option linter.unusedSimpArgs false
set_option linter.unusedVariables false
namespace Go.Aw
open Go.RowKit

def partsA (ρ : Operand → Option Value) : List (Nat × Operand) → Option (List (Nat × Value))
  | [] => some []
  | (i, x) :: r => match ρ x, partsA ρ r with
    | some v, some l => some ((i, v) :: l)
    | _, _ => none
def argsA (ρ : Operand → Option Value) : List Operand → Option (List Value)
  | [] => some []
  | x :: r => match ρ x, argsA ρ r with
    | some v, some l => some (v :: l)
    | _, _ => none
def placesL (P : Program) : List Field → Option (List (Nat × Nat))
  | [] => some []
  | f :: r => match P.info? f.type, placesL P r with
    | some i, some l => some ((f.offset, i.size) :: l)
    | _, _ => none
/-- Where the parts of a struct or an array lie. -/
def plA (P : Program) (t : TypeId) : Option (List (Nat × Nat)) :=
  match P.underlying t with
  | some (.struct fs) => placesL P fs.toList
  | some (.array n e) => match P.info? e with
    | some i => some ((List.range n).map fun j => (j * i.size, i.size))
    | none => none
  | _ => none
def fillA (place : List (Nat × Nat)) : List Value → List (Nat × Value) → Option (List Value)
  | cs, [] => some cs
  | cs, (i, v) :: r => match place[i]? with
    | some (off, s) => if v.cells.size = s ∧ off + s ≤ cs.length then fillA place (setN cs off v.cells.toList) r else none
    | none => none
def reps : Nat → List Value → List Value
  | 0, _ => []
  | n + 1, z => z ++ reps n z
def lenA (P : Program) (t : TypeId) (v : Value) : Option Int :=
  match tk P t, v with
  | .string, .string s => some s.size
  | .array n, _ => some n
  | .slice, .slice _ l _ => some l
  | .map, .map none => some 0
  | _, _ => none
def fieldA (P : Program) (t : TypeId) (i : Nat) : Option (TypeId × Nat) :=
  match P.underlying t with
  | some (.struct fs) => match fs[i]? with
    | some f => some (f.type, f.offset)
    | none => none
  | _ => none
/-- A part of an aggregate. -/
def partA (P : Program) (t : TypeId) (cs : List Value) (off : Nat) : Option Value :=
  match shp P t with
  | some (true, s) => some (.agg ((cs.drop off).take s).toArray)
  | some (false, _) => cs[off]?
  | none => none
def nilA : Value → Option Value
  | .pointer (some a) => some (.pointer (some a))
  | .func (.func f) x y => some (.func (.func f) x y)
  | _ => none
def asF : Value → Option (FuncId × List Value × List Value)
  | .func (.func f) x y => some (f, x.toList, y.toList)
  | _ => none
def asS : Value → Option (Option Addr × Nat × Nat)
  | .slice a l c => some (a, l, c)
  | _ => none
def asG : Value → Option (List Value)
  | .agg cs => some cs.toList
  | _ => none
def asT : Value → Option (List Value)
  | .tuple cs => some cs.toList
  | _ => none
/-- The address of an element. -/
def ixA (P : Program) (t : TypeId) (x : Value) (i : Int) (k : Value → Prop) : Prop :=
  match tk P t with
  | .slice => optK (elemS P t) fun ⟨_, sz, _⟩ => optK (asS x) fun ⟨a, l, _⟩ => (0 ≤ i ∧ i < l ∧ a.isSome = true) ∧ k (.pointer (some ((a.getD default).add (i.toNat * sz))))
  | .array _ => optK (elemR P t) fun ⟨n, sz⟩ => optK (asA x) fun a => (0 ≤ i ∧ i < n) ∧ k (.pointer (some (a.add (i.toNat * sz))))
  | _ => False
def unA (op : UnOp) (v : Value) : Option Value :=
  match op, v with
  | .not, .bool b => some (.bool !b)
  | .neg, .int k n => some (.int k (k.wrap (0 - n)))
  | _, _ => none
/-- Cells are written. -/
def putA (H : Heap) (a : Addr) (l : List Value) : Option Heap :=
  if a.spot.isNone && a.block % 2 == 1 && oneAll l then
    match H (a.block / 2) with
    | .cells cs T sz => if a.off + l.length ≤ cs.length then some (hset (a.block / 2) (.cells (setN cs a.off l) T sz) H) else none
    | .fixed cs T sz => if a.off + l.length ≤ cs.length then some (hset (a.block / 2) (.fixed (setN cs a.off l) T sz) H) else none
    | _ => none
  else none
theorem hset_again (k : Nat) (o o' : AObj) (H : Heap) : hset k o (hset k o' H) = hset k o H := by
  funext i; by_cases h : i = k
  · subst h; simp
  · simp [hset_ne h]
theorem St.fix {C : Ctx} {n : Nat} {J : Nat → Nat × Nat} {H : Heap} {w : World} {i : Nat} {cs : List Value} {T sz : Nat} (hs : St C n J (hset i (.cells cs T sz) H) w) (hi : i < n) (h0 : (J i).2 = 0) : St C n J (hset i (.fixed cs T sz) H) w := by
  have hl : ∀ j, (hset i (.fixed cs T sz) H j).live → (hset i (.cells cs T sz) H j).live := fun j hj => by
    by_cases e : j = i
    · subst e; rw [hset_same]; trivial
    · rw [hset_ne e] at hj ⊢; exact hj
  refine ⟨hs.below, hs.drw, hs.lo, fun j hj => ?_, fun a b ha hb hab hla hlb => hs.inj a b ha hb hab (hl a hla) (hl b hlb)⟩
  have ho := hs.obj j hj
  by_cases e : j = i
  · subst e
    rw [hset_same] at ho ⊢
    obtain ⟨h1, tail, h2, h3⟩ := ho
    rw [h0, Nat.zero_mul] at h2
    obtain rfl := List.eq_nil_of_length_eq_zero h2
    rw [List.append_nil] at h3
    exact ⟨h1, h0, h3⟩
  · rw [hset_ne e] at ho ⊢; exact ho
theorem putA_sound {C : Ctx} {n : Nat} {J : Nat → Nat × Nat} {H H' : Heap} {w : World} (hs : St C n J H w) {a : Addr} {l : List Value} (ha : UndA n a) (hv : ∀ v ∈ l, Und n v)
    (h : putA H a l = some H') : ∃ w', (storeCells (renA J a) (l.map (ren J))).run C.P w = .ok () w' ∧ St C n J H' w' := by
  unfold putA at h
  split at h
  · rename_i hc
    simp only [Bool.and_eq_true, Option.isNone_iff_eq_none, beq_iff_eq] at hc
    obtain ⟨⟨hsp, hod⟩, hone⟩ := hc
    have hlt := ha hod
    have hren : renA J a = ⟨(J (a.block / 2)).1, a.off, none⟩ := by
      unfold renA dec; rw [if_neg (by omega), hsp]
    split at h
    · rename_i cs T sz hH
      split at h
      · rename_i hl
        obtain rfl := Option.some.inj h
        obtain ⟨w', hr, hs'⟩ := St.storeN (C := C) (n := n) (J := J) (T := T) (sz := sz) hlt l cs H w a 0 hs hH hren (by simpa using hl)
          (fun u hu => ⟨hv u hu, List.all_eq_true.1 hone u hu⟩)
        exact ⟨w', by simpa using hr, by simpa using hs'⟩
      · cases h
    · rename_i cs T sz hH
      split at h
      · rename_i hl
        obtain rfl := Option.some.inj h
        have ho := hs.obj _ hlt
        rw [hH] at ho
        have hs1 : St C n J (hset (a.block / 2) (.cells cs T sz) H) w := hs.loose fun q hq => by
          by_cases e : q = a.block / 2
          · subst e; right; rw [hset_same, hH]; rfl
          · left; rw [hset_ne e]
        obtain ⟨w', hr, hs'⟩ := St.storeN (C := C) (n := n) (J := J) (T := T) (sz := sz) hlt l cs _ w a 0 hs1 (hset_same _ _ _) hren (by simpa using hl)
          (fun u hu => ⟨hv u hu, List.all_eq_true.1 hone u hu⟩)
        rw [hset_again] at hs'
        exact ⟨w', by simpa using hr, by simpa using hs'.fix hlt ho.2.1⟩
      · cases h
    · cases h
  · cases h
/-- The builtin clear, of a slice. -/
def clearK (C : Ctx) (H : Heap) (t : TypeId) (v : Value) (k : Heap → Prop) : Prop :=
  ∃ A l c, v = .slice A l c ∧ tk C.P t = .slice ∧ (l = 0 ∧ k H ∨ ∃ a e sz b z H', A = some a ∧ 0 < l ∧ elemS C.P t = some (e, sz, b) ∧ zeroA C.P e = some z ∧ 0 < z.length ∧ putA H a (reps l z) = some H' ∧ k H')
/-- A length; of a map, if it is one of the program's own. -/
def lenH (C : Ctx) (H : Heap) (t : TypeId) (v : Value) : Option Int :=
  match lenA C.P t v with
  | some l => some l
  | none => match mapT C.P t with
    | some _ => lenM H v
    | none => none
/-- The capacity is known. -/
def exactA (H : Heap) : Option Addr → Bool
  | none => true
  | some a => if a.block % 2 = 0 then true else match H (a.block / 2) with
    | .tight => true
    | .fixed .. => true
    | _ => false
def capK (C : Ctx) (H : Heap) (t : TypeId) (v : Value) (k : Int → Prop) : Prop :=
  ∃ A l c, v = .slice A l c ∧ tk C.P t = .slice ∧ if exactA H A = true then k c else ∀ x : Nat, c ≤ x → k x
/-- Elements are copied. -/
def copyA (C : Ctx) (H : Heap) (t : TypeId) (dst src : Value) : Option (Int × Heap) :=
  match dst, src with
  | .slice A dl _, .slice B sl _ => match elemS C.P t with
    | some (_, sz, _) => if min sl dl * sz = 0 then (if min sl dl = 0 then some (0, H) else none) else match rowA C H B (min sl dl * sz), A with
      | some cs, some a => match putA H a cs with
        | some H' => some (((min sl dl : Nat) : Int), H')
        | none => none
      | _, _ => none
    | none => none
  | _, _ => none
def lowI (lo : Option (IntKind × Int)) : Int := match lo with | some p => p.2 | none => 0
def highI (hi : Option (IntKind × Int)) (l : Nat) : Int := match hi with | some p => p.2 | none => l
/-- A slice cut at both ends; the head is the slice's own. -/
def cutK (C : Ctx) (H : Heap) (n : Nat) (t : TypeId) (x : Value) (lo hi : Option (IntKind × Int)) (mx : IntKind × Int) (k : Value → Nat → Heap → Prop) : Prop :=
  ∃ A l c q, x = .slice A l c ∧ tk C.P t = .slice ∧ elemS C.P t = some q ∧ lowI lo = 0 ∧ hi.isSome = true ∧ 0 ≤ highI hi l ∧ highI hi l ≤ mx.2 ∧ mx.2 ≤ c ∧
    match A with
    | none => k (.slice none (highI hi l).toNat mx.2.toNat) n H
    | some a => if a.block % 2 = 0 then k (.slice (some a) (highI hi l).toNat mx.2.toNat) n H
      else k (.slice (some ⟨new n, a.off, a.spot⟩) (highI hi l).toNat mx.2.toNat) (n + 1) (hset n .tight H)
def builtinA (C : Ctx) (b : Builtin) (ts : List TypeId) (vs : List Value) (k : Value → Nat → Heap → Prop) (n : Nat) (H : Heap) : Prop :=
  match b, ts, vs with
  | .len, t :: _, v :: _ => optK (lenH C H t v) fun l => k (.int .i64 l) n H
  | .cap, t :: _, v :: _ => capK C H t v fun l => k (.int .i64 l) n H
  | .copy, [t, u], [d, s] => optK (copyA C H t d s) fun p => k (.int .i64 p.1) n p.2
  | .delete, t :: _, [m, x] => delK C H t m x fun H' => k (.tuple #[]) n H'
  | .append, [t, u], [s, x] => t = u ∧ appK C H t n s x k
  | .clear, t :: _, v :: _ => clearK C H t v fun H' => k (.tuple #[]) n H'
  | .max, _, [.int q a, .int _ b] => k (.int q (if a < b then b else a)) n H
  | .min, _, [.int q a, .int _ b] => k (.int q (if b < a then b else a)) n H
  | _, _, _ => False
/-- A conversion between kinds of integers, or of a string to a string. -/
def convA (P : Program) (src dst : TypeId) (v : Value) : Option Value :=
  match P.underlying src, P.underlying dst, v with
  | some _, some (.int k), .int _ n => some (.int k (k.wrap n))
  | some .string, some .string, .string s => some (.string s)
  | _, _, _ => none
/-- An element of an array value, a byte of a string. -/
def idxA (P : Program) (t : TypeId) (x : Value) (i : Int) (k : Value → Prop) : Prop :=
  match P.underlying t, x with
  | some (.array _ e), .agg cs => optK (elemR P t) fun q => (0 ≤ i ∧ i < q.1) ∧ optK (partA P e cs.toList (i.toNat * q.2)) k
  | some .string, .string s => ∃ h : 0 ≤ i ∧ i.toNat < s.size, k (.int .u8 (s[i.toNat]'h.2).toNat)
  | _, _ => False
/-- A bound that may be missing. -/
def bndA (ρ : Operand → Option Value) : Option Operand → Option (Option (IntKind × Int))
  | none => some none
  | some x => (ρ x).bind fun v => (asI v).map some
def sliceA (P : Program) (t : TypeId) (x : Value) (lo hi : Option (IntKind × Int)) (k : Value → Prop) : Prop :=
  match tk P t, x with
  | .string, .string s => (0 ≤ lowI lo ∧ lowI lo ≤ highI hi s.size ∧ highI hi s.size ≤ s.size) ∧ k (.string (s.extract (lowI lo).toNat (highI hi s.size).toNat))
  | .slice, .slice A l c => optK (elemS P t) fun q => (0 ≤ lowI lo ∧ lowI lo ≤ highI hi l ∧ highI hi l ≤ c) ∧
      (if lowI lo = 0 then k (.slice A (highI hi l).toNat c)
      else if lowI lo < c then k (.slice (A.map fun a => a.add ((lowI lo).toNat * q.2.1)) ((highI hi l).toNat - (lowI lo).toNat) (c - (lowI lo).toNat))
      else k (.slice A 0 0) ∧ k (.slice (A.map fun a => a.add ((lowI lo).toNat * q.2.1)) 0 0))
  | _, _ => False
/-- Whether an object is a row. -/
def cellsO : AObj → Bool
  | .cells _ _ _ => true
  | .fixed _ _ _ => true
  | _ => false
/-- Pointers of a type whose elements have a size. -/
def ptrSz (P : Program) (t : TypeId) : Bool := match P.underlying t with
  | some (.pointer te) => match P.info? te with
    | some j => j.size != 0
    | none => false
  | _ => false
/-- Two pointers to new objects are compared. -/
def ptrK (P : Program) (H : Heap) (t : TypeId) (a b : Addr) (k : Bool → Prop) : Prop :=
  ptrSz P t = true ∧ ∃ p o q o', a = ⟨new p, o, none⟩ ∧ b = ⟨new q, o', none⟩ ∧ cellsO (H p) = true ∧ cellsO (H q) = true ∧ k (decide (p = q ∧ o = o'))
def binHK (P : Program) (H : Heap) (op : BinOp) (t : TypeId) (x y : Value) (k : Value → Prop) : Prop :=
  match op, x, y with
  | .eql, .pointer (some a), .pointer (some b) => ptrK P H t a b fun r => k (.bool r)
  | .neq, .pointer (some a), .pointer (some b) => ptrK P H t a b fun r => k (.bool !r)
  | op, x, y => binK P op t x y k
theorem ptrSz_spec {P : Program} {t : TypeId} (h : ptrSz P t = true) : ∃ te j, P.underlying t = some (.pointer te) ∧ P.info? te = some j ∧ j.size ≠ 0 := by
  unfold ptrSz at h
  split at h
  · rename_i te hu
    split at h
    · rename_i j hj; exact ⟨te, j, hu, hj, by simpa using h⟩
    · cases h
  · cases h
theorem cellsO_obj {n : Nat} {J : Nat → Nat × Nat} {w : World} {l : Nat × Nat} {o : AObj} (h : ObjOk n J w l o) (hc : cellsO o = true) : o.live ∧ ∃ cs T, w.heap[l.1]? = some (.cells cs T (0, 0)) := by
  cases o with
  | cells cs T sz => obtain ⟨_, tl, _, h⟩ := h; exact ⟨trivial, _, _, h⟩
  | fixed cs T sz => exact ⟨trivial, _, _, h.2.2⟩
  | _ => simp [cellsO] at hc
theorem run_equal_ptr {P : Program} {w : World} {tp te : TypeId} {j : TypeInfo} {a b : Addr} {ca cb : Array Value} {ta tb : TypeId} (hp : P.underlying tp = some (.pointer te)) (hte : P.info? te = some j) (hsz : j.size ≠ 0)
    (ha : w.heap[a.block]? = some (.cells ca ta (0, 0))) (hb : w.heap[b.block]? = some (.cells cb tb (0, 0))) : (Op.equal tp (.pointer (some a)) (.pointer (some b))).run P w = .ok (decide (a = b)) w := by
  have h : ∀ d : Nat, (Op.equalIn (d + 1) tp (.pointer (some a)) (.pointer (some b))).run P w = .ok (decide (a = b)) w := fun d => by
    by_cases hab : a = b
    · subst hab
      simp [Op.equalIn, run_underlying hp, sizeOf, typeInfo, hte, hsz, run_sameAddr_same]
    · simp [Op.equalIn, run_underlying hp, sizeOf, typeInfo, hte, hsz, run_sameAddr_other w hab ha hb, hab]
  exact h 9999
theorem binHK_run {C : Ctx} {n : Nat} {J : Nat → Nat × Nat} {H : Heap} {w : World} (hs : St C n J H w) {op : BinOp} {t : TypeId} {x y : Value} {k : Value → Prop} (hx : Und n x) (hy : Und n y) (h : binHK C.P H op t x y k) (xo yo : Operand) :
    ∃ v, (do eqGuard op t xo yo (ren J x) (ren J y); binOp op t (ren J x) (ren J y) : Sem Value).run C.P w = .ok v w ∧ (∀ n, Und n v ∧ ∀ g, renV g v = v) ∧ k v := by
  have key : ∀ (a b : Addr) (k : Bool → Prop), ptrK C.P H t a b k → Und n (.pointer (some a)) → Und n (.pointer (some b)) → ∃ r, (Op.equal t (ren J (.pointer (some a))) (ren J (.pointer (some b)))).run C.P w = .ok r w ∧ k r := by
    rintro a b k ⟨hz, p, o, q, o', rfl, rfl, hp, hq, hk⟩ ha hb
    obtain ⟨te, j, h1, h2, h3⟩ := ptrSz_spec hz
    have hpn := und_ptr_new.1 ha
    have hqn := und_ptr_new.1 hb
    obtain ⟨lp, cs, T, e1⟩ := cellsO_obj (hs.obj p hpn) hp
    obtain ⟨lq, cs', T', e2⟩ := cellsO_obj (hs.obj q hqn) hq
    refine ⟨_, ?_, hk⟩
    simp only [renV_ptr, dec_new]
    rw [run_equal_ptr h1 h2 h3 (a := ⟨(J p).1, o, none⟩) (b := ⟨(J q).1, o', none⟩) e1 e2]
    congr 1
    by_cases hpq : p = q
    · subst hpq; simp
    · have := hs.inj p q hpn hqn hpq lp lq
      simp [hpq, this]
  have guard : ∀ (op : BinOp) (a : Addr) (u : Value), (eqGuard op t xo yo (ren J (.pointer (some a))) u).run C.P w = .ok () w := fun op a u => run_eqGuard (by simp) (by simp) w
  unfold binHK at h
  split at h
  · obtain ⟨r, hr, hk⟩ := key _ _ _ h hx hy
    refine ⟨.bool r, ?_, fun n => ⟨by simp, by simp⟩, hk⟩
    rw [Sem.run_bind, guard, Result.andThen_ok]
    simp only [renV_ptr] at hr ⊢
    simp [binOp, hr]
  · obtain ⟨r, hr, hk⟩ := key _ _ _ h hx hy
    refine ⟨.bool !r, ?_, fun n => ⟨by simp, by simp⟩, hk⟩
    rw [Sem.run_bind, guard, Result.andThen_ok]
    simp only [renV_ptr] at hr ⊢
    simp [binOp, hr]
  · obtain ⟨v, hr, hv, hk⟩ := binK_run h J xo yo
    exact ⟨v, hr w, hv, hk⟩
theorem binHK_dead {P : Program} {op : BinOp} {t : TypeId} {x y : Value} {k : Value → Prop} (h : binHK P (fun _ => .dead) op t x y k) : binK P op t x y k := by
  unfold binHK at h
  split at h
  · obtain ⟨_, p, o, q, o', _, _, hp, _⟩ := h; simp [cellsO] at hp
  · obtain ⟨_, p, o, q, o', _, _, hp, _⟩ := h; simp [cellsO] at hp
  · exact h
def opA (C : Ctx) (ρ : Operand → Option Value) (op : Op) (k : Value → Nat → Heap → Prop) (n : Nat) (H : Heap) : Prop :=
  match op with
  | .move x => optK (ρ x) fun v => k v n H
  | .assign x => optK (ρ x) fun v => k v n H
  | .pick c a b => optK (ρ c) fun c => optK (asB c) fun c => optK (ρ a) fun u => optK (ρ b) fun v => k (if c then u else v) n H
  | .alloc t => optK (zeroA C.P t) fun z => k (.pointer (some ⟨new n, 0, none⟩)) (n + 1) (hset n (.cells z t 1) H)
  | .box t x => optK (ρ x) fun v => k (.pointer (some ⟨new n, 0, none⟩)) (n + 1) (hset n (.cells v.cells.toList t 1) H)
  | .build t ps => optK (partsA ρ ps.toList) fun ps => optK (zeroA C.P t) fun z => optK (plA C.P t) fun pl => optK (fillA pl z ps) fun cs => k (.agg cs.toArray) n H
  | .buildSlice t len ps => optK (partsA ρ ps.toList) fun ps => optK (elemS C.P t) fun ⟨e, sz, _⟩ => optK (zeroA C.P e) fun z => (z.length = sz ∧ 0 < sz ∧ len * sz ≤ 16777216) ∧
      optK (fillA ((List.range len).map fun j => (j * sz, sz)) (reps len z) ps) fun cs => k (.slice (some ⟨new n, 0, none⟩) len len) (n + 1) (hset n (.cells cs e sz) H)
  | .load t x => optK (ρ x) fun p => optK (asA p) fun a => optK (loadA C H t a) fun v => k v n H
  | .store t x y => optK (ρ x) fun p => optK (asA p) fun a => optK (ρ y) fun v => optK (storeA C H t a v) fun H' => k undef n H'
  | .nilCheck x => optK (ρ x) fun v => optK (nilA v) fun v => k v n H
  | .binOp op t x y _ => optK (ρ x) fun a => optK (ρ y) fun b => binHK C.P H op t a b fun v => k v n H
  | .unOp op _ x => optK (ρ x) fun a => optK (unA op a) fun v => k v n H
  | .fieldAddr s x f => optK (ρ x) fun p => optK (asA p) fun a => optK (fld C.P s f) fun off => k (.pointer (some (a.add off))) n H
  | .indexAddr t x y => optK (ρ x) fun p => optK (ρ y) fun y => optK (asI y) fun ⟨_, i⟩ => ixA C.P t p i fun v => k v n H
  | .field t x f => optK (ρ x) fun v => optK (asG v) fun cs => optK (fieldA C.P t f) fun ⟨u, off⟩ => optK (partA C.P u cs off) fun v => k v n H
  | .index t x y => optK (ρ x) fun v => optK (ρ y) fun y => optK (asI y) fun p => idxA C.P t v p.2 fun v => k v n H
  | .convert src dst x => optK (ρ x) fun v => optK (convA C.P src dst v) fun v => k v n H
  | .slice t x lo hi none => optK (ρ x) fun v => optK (bndA ρ lo) fun lo => optK (bndA ρ hi) fun hi => sliceA C.P t v lo hi fun v => k v n H
  | .slice t x lo hi (some mx) => optK (ρ x) fun v => optK (bndA ρ lo) fun lo => optK (bndA ρ hi) fun hi => optK (ρ mx) fun m => optK (asI m) fun m => cutK C H n t v lo hi m k
  | .makeSlice t l c => optK (ρ l) fun l => optK (asI l) fun l => optK (ρ c) fun c => optK (asI c) fun c => optK (elemS C.P t) fun q => optK (zeroA C.P q.1) fun z => (z.length = q.2.1 ∧ 0 < q.2.1 ∧ 0 ≤ l.2 ∧ l.2 ≤ c.2 ∧ c.2 * q.2.2 ≤ 281474976710656 ∧ c.2 ≤ 281474976710656) ∧
      k (.slice (some ⟨new n, 0, none⟩) l.2.toNat c.2.toNat) (n + 1) (hset n (.cells (reps c.2.toNat z) q.1 q.2.1) H)
  | .makeMap t none => k (.map (some (new n))) (n + 1) (hset n (.map [] 0) H)
  | .lookup t x y ok => optK (ρ x) fun m => optK (ρ y) fun key => lookK C H t m key ok fun v => k v n H
  | .mapUpdate t x y v => optK (ρ x) fun m => optK (ρ y) fun key => optK (ρ v) fun v => updK C H t m key v fun H' => k undef n H'
  | .insert t x y v => optK (ρ x) fun m => optK (ρ y) fun key => optK (ρ v) fun v => updK C H t m key v fun H' => k undef n H'
  | .range t x => optK (ρ x) fun v => rangeK C H t v fun o => k (.pointer (some ⟨new n, 0, none⟩)) (n + 1) (hset n o H)
  | .next it false => optK (ρ it) fun v => nextK H v fun v H' => k v n H'
  | .entry it => optK (ρ it) fun v => entryK H v fun v => k v n H
  | .extract x i => optK (ρ x) fun v => optK (asT v) fun vs => optK vs[i]? fun v => k v n H
  | .makeFunc f x y => optK (argsA ρ x.toList) fun x => optK (argsA ρ y.toList) fun y => k (.func f x.toArray y.toArray) n H
  | .call ⟨.value f, args, _⟩ => optK (ρ f) fun f => optK (asF f) fun ⟨f, x, y⟩ => optK (argsA ρ args.toList) fun vs => entB C.P f = true ∧ ACall C f (x ++ vs ++ y) k n H
  | .call ⟨.builtin b, args, ts⟩ => optK (argsA ρ args.toList) fun vs => builtinA C b ts.toList vs k n H
  | _ => False

theorem argsA_some {N n : Nat} {J : Nat → Nat × Nat} {fr : Fr} {a : Act} (h : FrOk N n J fr a) : ∀ (l : List Operand) (vs : List Value), argsA (ev fr) l = some vs → l.map a.eval = vs.map (ren J) ∧ ∀ v ∈ vs, Und n v
  | [], vs, hv => by simp only [argsA, Option.some.injEq] at hv; subst hv; simp
  | x :: r, vs, hv => by
    simp only [argsA] at hv
    split at hv
    · rename_i v l h1 h2
      obtain rfl := Option.some.inj hv
      obtain ⟨e1, u1⟩ := ev_sound h h1
      obtain ⟨e2, u2⟩ := argsA_some h r l h2
      exact ⟨by simp [e1, e2], by simpa [u1] using u2⟩
    · cases hv
theorem partsA_some {N n : Nat} {J : Nat → Nat × Nat} {fr : Fr} {a : Act} (h : FrOk N n J fr a) : ∀ (l : List (Nat × Operand)) (vs : List (Nat × Value)), partsA (ev fr) l = some vs →
    (l.map fun (i, x) => (i, a.eval x)) = (vs.map fun (i, v) => (i, ren J v)) ∧ ∀ p ∈ vs, Und n p.2
  | [], vs, hv => by simp only [partsA, Option.some.injEq] at hv; subst hv; simp
  | (i, x) :: r, vs, hv => by
    simp only [partsA] at hv
    split at hv
    · rename_i v l h1 h2
      obtain rfl := Option.some.inj hv
      obtain ⟨e1, u1⟩ := ev_sound h h1
      obtain ⟨e2, u2⟩ := partsA_some h r l h2
      refine ⟨by simp [e1, e2], ?_⟩
      intro p hp
      rcases List.mem_cons.1 hp with rfl | hp
      · exact u1
      · exact u2 p hp
    · cases hv
theorem foldl_setN (off : Nat) : ∀ (l : List Value) (j : Nat) (cs : List Value), (l.zipIdx j).foldl (fun (cs : Array Value) (x : Value × Nat) => cs.setIfInBounds (off + x.2) x.1) cs.toArray = (setN cs (off + j) l).toArray
  | [], _, _ => rfl
  | v :: r, j, cs => by
    simp only [List.zipIdx_cons, List.foldl_cons, setN]
    rw [List.setIfInBounds_toArray, foldl_setN off r (j + 1), Nat.add_assoc]
theorem fill_sound {J : Nat → Nat × Nat} {pl : List (Nat × Nat)} {place : Nat → Option (Nat × Nat)} (hp : ∀ i x, pl[i]? = some x → place i = some x) :
    ∀ (ps : List (Nat × Value)) (cs cs' : List Value), fillA pl cs ps = some cs' → Instr.fill place (cs.map (ren J)).toArray (ps.map fun (i, v) => (i, ren J v)) = some (cs'.map (ren J)).toArray
  | [], cs, cs', h => by simp only [fillA, Option.some.injEq] at h; subst h; rfl
  | (i, v) :: r, cs, cs', h => by
    simp only [fillA] at h
    split at h
    · rename_i off s hpl
      split at h
      · rename_i hc
        simp only [List.map_cons, Instr.fill, hp i _ hpl, renV_cells]
        have e1 : ¬ ((Array.map (renV (dec J)) v.cells).size ≠ s || decide (off + (Array.map (renV (dec J)) v.cells).size > (cs.map (ren J)).toArray.size)) = true := by
          simp; omega
        rw [if_neg e1]
        have e2 := foldl_setN off ((v.cells.map (ren J)).toList) 0 (cs.map (ren J))
        have e3 : (v.cells.map (ren J)).toList = v.cells.toList.map (ren J) := by simp
        rw [e3, Nat.add_zero, ← setN_map] at e2
        have ih := fill_sound (J := J) hp r _ cs' h
        rw [← e2] at ih
        have e4 : (Array.map (renV (dec J)) v.cells).zipIdx.foldl (fun (cs : Array Value) (x : Value × Nat) => cs.setIfInBounds (off + x.2) x.1) (cs.map (ren J)).toArray = ((v.cells.toList.map (ren J)).zipIdx 0).foldl (fun (cs : Array Value) (x : Value × Nat) => cs.setIfInBounds (off + x.2) x.1) (cs.map (ren J)).toArray := by
          rw [← Array.foldl_toList]; simp
        rw [← e4] at ih
        exact ih
      · cases h
    · cases h
theorem fill_und {n : Nat} {pl : List (Nat × Nat)} : ∀ (ps : List (Nat × Value)) (cs cs' : List Value), fillA pl cs ps = some cs' → (∀ v ∈ cs, Und n v) → (∀ p ∈ ps, Und n p.2) → ∀ v ∈ cs', Und n v
  | [], cs, cs', h, h1, _ => by simp only [fillA, Option.some.injEq] at h; subst h; exact h1
  | (i, v) :: r, cs, cs', h, h1, h2 => by
    simp only [fillA] at h
    split at h
    · split at h
      · refine fill_und r _ cs' h (fun u hu => ?_) (fun p hp => h2 p (by simp [hp]))
        rcases mem_setN _ _ _ hu with hu | hu
        · exact h1 u hu
        · exact und_cells (h2 (i, v) (by simp)) u (by simpa using hu)
      · cases h
    · cases h
theorem run_mapM_places {P : Program} (w : World) : ∀ (l : List Field) (pl : List (Nat × Nat)), placesL P l = some pl → (l.mapM (fun f => do pure (f.offset, ← sizeOf f.type) : Field → Sem (Nat × Nat))).run P w = .ok pl w
  | [], pl, h => by simp only [placesL, Option.some.injEq] at h; subst h; rfl
  | f :: r, pl, h => by
    simp only [placesL] at h
    split at h
    · rename_i i l h1 h2
      obtain rfl := Option.some.inj h
      simp only [List.mapM_cons, Sem.run_bind, run_sizeOf h1, Result.andThen_ok, run_mapM_places w r l h2, Sem.run_pure]
    · cases h
theorem run_build {C : Ctx} {n : Nat} {J : Nat → Nat × Nat} {t : TypeId} {z cs : List Value} {pl : List (Nat × Nat)} {ps : List (Nat × Value)} (hz : zeroA C.P t = some z) (hpl : plA C.P t = some pl)
    (hf : fillA pl z ps = some cs) (hu : ∀ p ∈ ps, Und n p.2) (w : World) : (Instr.build t (ps.map fun (i, v) => (i, ren J v)).toArray).run C.P w = .ok (ren J (.agg cs.toArray)) w ∧ Und n (.agg cs.toArray) := by
  obtain ⟨i, v, hi, hv, rfl, hfl⟩ := zeroA_some hz
  have hren : v.cells.toList.map (ren J) = v.cells.toList := by
    conv => rhs; rw [← List.map_id v.cells.toList]
    exact List.map_congr_left fun c hc => flat_ren (hfl c hc) _
  have hund : ∀ c ∈ v.cells.toList, Und n c := fun c hc J J' _ => by rw [ren, ren, flat_ren (hfl c hc), flat_ren (hfl c hc)]
  refine ⟨?_, und_agg fun c hc => fill_und ps _ cs hf hund hu c (by simpa using hc)⟩
  unfold plA at hpl
  split at hpl
  · rename_i fs hd
    have h1 := fill_sound (J := J) (place := fun k => pl.toArray[k]?) (pl := pl) (by simp) ps _ cs hf
    rw [hren] at h1
    simp only [Array.toArray_toList] at h1
    have h2 : (fs.mapM (fun f => do pure (f.offset, ← sizeOf f.type) : Field → Sem (Nat × Nat))).run C.P w = .ok pl.toArray w := by
      rw [Array.mapM_eq_mapM_toList]
      simp only [Sem.run_map, run_mapM_places w _ _ hpl, Result.andThen_ok]
    simp only [Instr.build, Sem.run_bind, run_zero hi hv, Result.andThen_ok, run_under hd, h2]
    rw [h1]
    simp
  · rename_i len e hd
    split at hpl
    · rename_i j hj
      obtain rfl := Option.some.inj hpl
      have h1 := fill_sound (J := J) (place := fun k => some (k * j.size, j.size)) (pl := (List.range len).map fun q => (q * j.size, j.size)) (by
        intro q x hq
        rw [List.getElem?_map] at hq
        obtain ⟨r, hr, rfl⟩ := Option.map_eq_some_iff.1 hq
        obtain ⟨hlt, hr⟩ := List.getElem?_eq_some_iff.1 hr
        simp at hr; subst hr; rfl) ps _ cs hf
      rw [hren] at h1
      simp only [Array.toArray_toList] at h1
      simp only [Instr.build, Sem.run_bind, run_zero hi hv, Result.andThen_ok, run_under hd, run_sizeOf hj]
      rw [h1]
      simp
    · cases hpl
  · cases hpl
end Go.Aw
