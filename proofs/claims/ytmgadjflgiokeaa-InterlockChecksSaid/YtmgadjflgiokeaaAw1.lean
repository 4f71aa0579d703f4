/-
  The abstract machine, part 1: renaming of memory blocks, abstract heaps, and what it means that an abstract heap describes a world.
-/
import Derived.WalkKit
import Derived.WalkLawsBesides
import Derived.Still
import Derived.Deep.Draws
import Derived.Below
import Derived.Wp
set_option linter.unusedSimpArgs false
set_option linter.unusedVariables false
namespace Go.Aw
open Go.RowKit

/-- An equation whose proof simp records. -/
theorem nr {α : Sort _} {a b : α} (h : a = b) : a = b := h

/-- Renames the blocks that a value leads to; a slice's capacity grows by what its block has to spare. -/
def renV (g : Nat → Nat × Nat) : Value → Value
  | .pointer (some a) => .pointer (some ⟨(g a.block).1, a.off, a.spot⟩)
  | .slice (some a) l c => .slice (some ⟨(g a.block).1, a.off, a.spot⟩) l (c + (g a.block).2)
  | .map (some r) => .map (some (g r).1)
  | .chan (some r) => .chan (some (g r).1)
  | .agg cs => .agg (cs.attach.map fun ⟨c, _⟩ => renV g c)
  | .tuple cs => .tuple (cs.attach.map fun ⟨c, _⟩ => renV g c)
  | .func fn f c => .func fn (f.attach.map fun ⟨c, _⟩ => renV g c) (c.attach.map fun ⟨c, _⟩ => renV g c)
  | .iface t v => .iface t (renV g v)
  | v => v
  termination_by v => SizeOf.sizeOf v
  decreasing_by
    all_goals simp_wf
    all_goals (try (rename_i h; have := Array.sizeOf_lt_of_mem h; omega))
    all_goals (try omega)

section
variable (g : Nat → Nat × Nat)
@[simp] theorem renV_bool (b : Bool) : renV g (.bool b) = .bool b := by simp [renV]
@[simp] theorem renV_int (k : IntKind) (n : Int) : renV g (.int k n) = .int k n := by simp [renV]
@[simp] theorem renV_float (k : FloatKind) (n : Nat) : renV g (.float k n) = .float k n := by simp [renV]
@[simp] theorem renV_complex (k : FloatKind) (n m : Nat) : renV g (.complex k n m) = .complex k n m := by simp [renV]
@[simp] theorem renV_string (s : ByteArray) : renV g (.string s) = .string s := by simp [renV]
@[simp] theorem renV_ptr_none : renV g (.pointer none) = .pointer none := by simp [renV]
@[simp] theorem renV_ptr (a : Addr) : renV g (.pointer (some a)) = .pointer (some ⟨(g a.block).1, a.off, a.spot⟩) := by simp [renV]
@[simp] theorem renV_slice_none (l c : Nat) : renV g (.slice none l c) = .slice none l c := by simp [renV]
@[simp] theorem renV_slice (a : Addr) (l c : Nat) : renV g (.slice (some a) l c) = .slice (some ⟨(g a.block).1, a.off, a.spot⟩) l (c + (g a.block).2) := by simp [renV]
@[simp] theorem renV_map_none : renV g (.map none) = .map none := by simp [renV]
@[simp] theorem renV_map (r : Nat) : renV g (.map (some r)) = .map (some (g r).1) := by simp [renV]
@[simp] theorem renV_chan_none : renV g (.chan none) = .chan none := by simp [renV]
@[simp] theorem renV_chan (r : Nat) : renV g (.chan (some r)) = .chan (some (g r).1) := by simp [renV]
@[simp] theorem renV_agg (cs : Array Value) : renV g (.agg cs) = .agg (cs.map (renV g)) := by simp [renV]
@[simp] theorem renV_tuple (cs : Array Value) : renV g (.tuple cs) = .tuple (cs.map (renV g)) := by simp [renV]
@[simp] theorem renV_func (fn : Fn) (f c : Array Value) : renV g (.func fn f c) = .func fn (f.map (renV g)) (c.map (renV g)) := by simp [renV]
@[simp] theorem renV_nilFunc : renV g .nilFunc = .nilFunc := by simp [renV]
@[simp] theorem renV_iface (t : TypeId) (v : Value) : renV g (.iface t v) = .iface t (renV g v) := by simp [renV]
@[simp] theorem renV_nilIface : renV g .nilIface = .nilIface := by simp [renV]
end

/-- Induction over values. -/
theorem Value.ind {p : Value → Prop} (atom : ∀ v, (∀ cs, v ≠ .agg cs) → (∀ cs, v ≠ .tuple cs) → (∀ fn f c, v ≠ .func fn f c) → (∀ t x, v ≠ .iface t x) → p v)
    (agg : ∀ cs : Array Value, (∀ c ∈ cs, p c) → p (.agg cs)) (tuple : ∀ cs : Array Value, (∀ c ∈ cs, p c) → p (.tuple cs))
    (func : ∀ fn (f c : Array Value), (∀ x ∈ f, p x) → (∀ x ∈ c, p x) → p (.func fn f c)) (iface : ∀ t x, p x → p (.iface t x)) : ∀ v, p v
  | .agg cs => agg cs fun c h => Value.ind atom agg tuple func iface c
  | .tuple cs => tuple cs fun c h => Value.ind atom agg tuple func iface c
  | .func fn f c => func fn f c (fun x h => Value.ind atom agg tuple func iface x) (fun x h => Value.ind atom agg tuple func iface x)
  | .iface t x => iface t x (Value.ind atom agg tuple func iface x)
  | .bool b => atom _ (by simp) (by simp) (by simp) (by simp)
  | .int k n => atom _ (by simp) (by simp) (by simp) (by simp)
  | .float k n => atom _ (by simp) (by simp) (by simp) (by simp)
  | .complex k n m => atom _ (by simp) (by simp) (by simp) (by simp)
  | .string s => atom _ (by simp) (by simp) (by simp) (by simp)
  | .pointer a => atom _ (by simp) (by simp) (by simp) (by simp)
  | .slice a l c => atom _ (by simp) (by simp) (by simp) (by simp)
  | .map r => atom _ (by simp) (by simp) (by simp) (by simp)
  | .chan r => atom _ (by simp) (by simp) (by simp) (by simp)
  | .nilFunc => atom _ (by simp) (by simp) (by simp) (by simp)
  | .nilIface => atom _ (by simp) (by simp) (by simp) (by simp)
  termination_by v => SizeOf.sizeOf v
  decreasing_by
    all_goals simp_wf
    all_goals (try (have := Array.sizeOf_lt_of_mem h; omega))
    all_goals (try omega)

theorem map_congr_mem {α β : Type} {xs : Array α} {f h : α → β} (e : ∀ x ∈ xs, f x = h x) : xs.map f = xs.map h := by
  apply Array.ext
  · simp
  · intro i h1 h2
    simp only [Array.getElem_map]
    exact e _ (Array.getElem_mem _)

theorem renV_id (v : Value) : renV (fun b => (b, 0)) v = v := by
  induction v using Value.ind with
  | atom v h1 h2 h3 h4 =>
    cases v with
    | pointer a => cases a <;> simp
    | slice a l c => cases a <;> simp
    | map r => cases r <;> simp
    | chan r => cases r <;> simp
    | agg cs => exact absurd rfl (h1 cs)
    | tuple cs => exact absurd rfl (h2 cs)
    | func fn f c => exact absurd rfl (h3 fn f c)
    | iface t x => exact absurd rfl (h4 t x)
    | _ => simp
  | agg cs ih => rw [renV_agg, map_congr_mem ih, Array.map_id']
  | tuple cs ih => rw [renV_tuple, map_congr_mem ih, Array.map_id']
  | func fn f c ih1 ih2 => rw [renV_func, map_congr_mem ih1, map_congr_mem ih2, Array.map_id', Array.map_id']
  | iface t x ih => rw [renV_iface, ih]

theorem renV_renV (g h : Nat → Nat × Nat) (v : Value) : renV g (renV h v) = renV (fun b => ((g (h b).1).1, (h b).2 + (g (h b).1).2)) v := by
  induction v using Value.ind with
  | atom v h1 h2 h3 h4 =>
    cases v with
    | pointer a => cases a <;> simp
    | slice a l c => cases a <;> simp [Nat.add_assoc]
    | map r => cases r <;> simp
    | chan r => cases r <;> simp
    | agg cs => exact absurd rfl (h1 cs)
    | tuple cs => exact absurd rfl (h2 cs)
    | func fn f c => exact absurd rfl (h3 fn f c)
    | iface t x => exact absurd rfl (h4 t x)
    | _ => simp
  | agg cs ih => simp only [renV_agg, Array.map_map]; exact congrArg _ (map_congr_mem ih)
  | tuple cs ih => simp only [renV_tuple, Array.map_map]; exact congrArg _ (map_congr_mem ih)
  | func fn f c ih1 ih2 => simp only [renV_func, Array.map_map]; rw [← map_congr_mem ih1, ← map_congr_mem ih2]; rfl
  | iface t x ih => simp only [renV_iface, ih]

theorem renV_oneCell (g : Nat → Nat × Nat) (v : Value) : (renV g v).oneCell = v.oneCell := by
  cases v with
  | pointer a => cases a <;> simp [Value.oneCell]
  | slice a l c => cases a <;> simp [Value.oneCell]
  | map r => cases r <;> simp [Value.oneCell]
  | chan r => cases r <;> simp [Value.oneCell]
  | _ => simp [Value.oneCell]
theorem renV_cells (g : Nat → Nat × Nat) (v : Value) : (renV g v).cells = v.cells.map (renV g) := by
  cases v with
  | pointer a => cases a <;> simp [Value.cells]
  | slice a l c => cases a <;> simp [Value.cells]
  | map r => cases r <;> simp [Value.cells]
  | chan r => cases r <;> simp [Value.cells]
  | _ => simp [Value.cells]

/-! ### Abstract block numbers: an even one is a block that was there, an odd one is a new object -/
def old (b : Nat) : Nat := 2 * b
def new (k : Nat) : Nat := 2 * k + 1
def dec (J : Nat → Nat × Nat) (b : Nat) : Nat × Nat := if b % 2 = 0 then (b / 2, 0) else J (b / 2)
abbrev ren (J : Nat → Nat × Nat) : Value → Value := renV (dec J)
@[simp] theorem dec_old (J : Nat → Nat × Nat) (b : Nat) : dec J (old b) = (b, 0) := by
  unfold dec old; rw [if_pos (by omega)]; congr 1; omega
@[simp] theorem dec_new (J : Nat → Nat × Nat) (k : Nat) : dec J (new k) = J k := by
  unfold dec new; rw [if_neg (by omega)]; congr 1; omega
/-- What was there, as the abstract machine names it. -/
def emb : Value → Value := renV (fun b => (old b, 0))
theorem ren_emb (J : Nat → Nat × Nat) (v : Value) : ren J (emb v) = v := by
  unfold emb ren; rw [renV_renV]; simp only [dec_old]; exact renV_id v
/-- Renames new objects. -/
def sub (σ : Nat → Nat) : Value → Value := renV (fun b => if b % 2 = 0 then (b, 0) else (new (σ (b / 2)), 0))
theorem ren_sub (J : Nat → Nat × Nat) (σ : Nat → Nat) (v : Value) : ren J (sub σ v) = ren (fun k => J (σ k)) v := by
  unfold sub ren; rw [renV_renV]; congr 1; funext b
  by_cases h : b % 2 = 0
  · simp [h, dec]
  · simp [h, dec_new]
    simp [dec, h]

/-- The value leads to no new object from number n on. -/
def Und (n : Nat) (v : Value) : Prop := ∀ J J' : Nat → Nat × Nat, (∀ i, i < n → J i = J' i) → ren J v = ren J' v
theorem Und.mono {n m : Nat} {v : Value} (h : Und n v) (hm : n ≤ m) : Und m v := fun J J' e => h J J' fun i hi => e i (by omega)
theorem und_emb (n : Nat) (v : Value) : Und n (emb v) := fun J J' _ => by rw [ren_emb, ren_emb]
@[simp] theorem und_bool (n : Nat) (b : Bool) : Und n (.bool b) := fun _ _ _ => by simp
@[simp] theorem und_int (n : Nat) (k : IntKind) (x : Int) : Und n (.int k x) := fun _ _ _ => by simp
@[simp] theorem und_string (n : Nat) (s : ByteArray) : Und n (.string s) := fun _ _ _ => by simp
@[simp] theorem und_ptr_none (n : Nat) : Und n (.pointer none) := fun _ _ _ => by simp
@[simp] theorem und_slice_none (n l c : Nat) : Und n (.slice none l c) := fun _ _ _ => by simp
@[simp] theorem und_map_none (n : Nat) : Und n (.map none) := fun _ _ _ => by simp
@[simp] theorem und_nilFunc (n : Nat) : Und n .nilFunc := fun _ _ _ => by simp
@[simp] theorem und_nilIface (n : Nat) : Und n .nilIface := fun _ _ _ => by simp
theorem und_ptr {n : Nat} {a : Addr} : Und n (.pointer (some a)) ↔ (a.block % 2 = 1 → a.block / 2 < n) := by
  constructor
  · intro h ho
    by_cases hl : a.block / 2 < n
    · exact hl
    · have := h (fun _ => (0, 0)) (fun i => if i < n then (0, 0) else (1, 0)) (fun i hi => by simp [hi])
      simp [dec, ho, hl] at this
  · intro h J J' e
    simp only [renV_ptr]
    have : dec J a.block = dec J' a.block := by
      unfold dec
      split
      · rfl
      · exact e _ (h (by omega))
    rw [this]
theorem und_slice {n : Nat} {a : Addr} {l c : Nat} : Und n (.slice (some a) l c) ↔ (a.block % 2 = 1 → a.block / 2 < n) := by
  constructor
  · intro h ho
    by_cases hl : a.block / 2 < n
    · exact hl
    · have := h (fun _ => (0, 0)) (fun i => if i < n then (0, 0) else (1, 0)) (fun i hi => by simp [hi])
      simp [dec, ho, hl] at this
  · intro h J J' e
    simp only [renV_slice]
    have : dec J a.block = dec J' a.block := by
      unfold dec
      split
      · rfl
      · exact e _ (h (by omega))
    rw [this]
@[simp] theorem und_ptr_new {n k o : Nat} : Und n (.pointer (some ⟨new k, o, none⟩)) ↔ k < n := by
  rw [und_ptr]; simp only [new]; omega
@[simp] theorem und_slice_new {n k o l c : Nat} : Und n (.slice (some ⟨new k, o, none⟩) l c) ↔ k < n := by
  rw [und_slice]; simp only [new]; omega
@[simp] theorem und_ptr_old {n b o : Nat} : Und n (.pointer (some ⟨old b, o, none⟩)) := by
  rw [und_ptr]; simp only [old]; omega
@[simp] theorem und_slice_old {n b o l c : Nat} : Und n (.slice (some ⟨old b, o, none⟩) l c) := by
  rw [und_slice]; simp only [old]; omega
theorem und_agg {n : Nat} {cs : Array Value} (h : ∀ c ∈ cs, Und n c) : Und n (.agg cs) := fun J J' e => by
  simp only [renV_agg]; exact congrArg _ (map_congr_mem fun x hx => h x hx J J' e)
theorem und_tuple {n : Nat} {cs : Array Value} (h : ∀ c ∈ cs, Und n c) : Und n (.tuple cs) := fun J J' e => by
  simp only [renV_tuple]; exact congrArg _ (map_congr_mem fun x hx => h x hx J J' e)
theorem und_of_agg {n : Nat} {cs : Array Value} (h : Und n (.agg cs)) {c : Value} (hc : c ∈ cs) : Und n c := fun J J' e => by
  have := h J J' e
  simp only [renV_agg, Value.agg.injEq] at this
  obtain ⟨i, hi, rfl⟩ := Array.getElem_of_mem hc
  have h2 := congrArg (fun a : Array Value => a[i]?) this
  simpa [hi] using h2
theorem und_of_tuple {n : Nat} {cs : Array Value} (h : Und n (.tuple cs)) {c : Value} (hc : c ∈ cs) : Und n c := fun J J' e => by
  have := h J J' e
  simp only [renV_tuple, Value.tuple.injEq] at this
  obtain ⟨i, hi, rfl⟩ := Array.getElem_of_mem hc
  have h2 := congrArg (fun a : Array Value => a[i]?) this
  simpa [hi] using h2
theorem und_func {n : Nat} {fn : Fn} {f c : Array Value} : Und n (.func fn f c) ↔ (∀ x ∈ f, Und n x) ∧ (∀ x ∈ c, Und n x) := by
  constructor
  · intro h
    constructor
    · intro x hx J J' e
      have := h J J' e
      simp only [renV_func, Value.func.injEq] at this
      obtain ⟨i, hi, rfl⟩ := Array.getElem_of_mem hx
      have h2 := congrArg (fun a : Array Value => a[i]?) this.2.1
      simpa [hi] using h2
    · intro x hx J J' e
      have := h J J' e
      simp only [renV_func, Value.func.injEq] at this
      obtain ⟨i, hi, rfl⟩ := Array.getElem_of_mem hx
      have h2 := congrArg (fun a : Array Value => a[i]?) this.2.2
      simpa [hi] using h2
  · rintro ⟨h1, h2⟩ J J' e
    simp only [renV_func]
    rw [map_congr_mem fun x hx => h1 x hx J J' e, map_congr_mem fun x hx => h2 x hx J J' e]
theorem und_cells {n : Nat} {v : Value} (h : Und n v) : ∀ c ∈ v.cells, Und n c := by
  cases v with
  | agg cs => exact fun c hc => und_of_agg h hc
  | _ => intro c hc; simp [Value.cells] at hc; subst hc; exact h

/-! ### Abstract heaps -/
/-- A map's key: flat, or cells that are flat. -/
def flatK : Value → Bool
  | .agg cs => cs.toList.all fun v => match v with
    | .bool _ | .int _ _ | .string _ => true
    | _ => false
  | .bool _ | .int _ _ | .string _ => true
  | _ => false
theorem flatK_ren {v : Value} (h : flatK v = true) (g : Nat → Nat × Nat) : renV g v = v := by
  cases v with
  | agg cs =>
    rw [renV_agg]
    simp only [flatK, List.all_eq_true] at h
    have : cs.map (renV g) = cs.map id := map_congr_mem fun x hx => by
      have := h x (by simpa using hx)
      cases x <;> simp_all
    rw [this, Array.map_id]
  | _ => simp_all [flatK]
theorem und_flatK {n : Nat} {v : Value} (h : flatK v = true) : Und n v := fun J J' _ => by rw [ren, ren, flatK_ren h, flatK_ren h]
/-- An entry, its value renamed. -/
def mapE (f : Value → Value) (e : MapEntry) : MapEntry := { key := e.key, val := f e.val, born := e.born }
@[simp] theorem mapE_key (f : Value → Value) (e : MapEntry) : (mapE f e).key = e.key := rfl
@[simp] theorem mapE_val (f : Value → Value) (e : MapEntry) : (mapE f e).val = f e.val := rfl
@[simp] theorem mapE_born (f : Value → Value) (e : MapEntry) : (mapE f e).born = e.born := rfl
/-- What an object is: forgotten; another name of a row, its capacity known; a row that may have room behind it; a row that has none; a map; what ranges over a map. -/
inductive AObj where
  | dead
  | tight
  | cells (cs : List Value) (T : TypeId) (sz : Nat)
  | fixed (cs : List Value) (T : TypeId) (sz : Nat)
  | map (es : List MapEntry) (clock : Nat)
  | iter (m : Option Nat) (since : Nat) (seen : List Nat) (last : Nat)
def AObj.live : AObj → Prop
  | .dead => False
  | .tight => False
  | _ => True
abbrev Heap := Nat → AObj
def hset (k : Nat) (o : AObj) (H : Heap) : Heap := fun i => if i = k then o else H i
@[simp] theorem hset_same (k : Nat) (o : AObj) (H : Heap) : hset k o H k = o := by simp [hset]
theorem hset_ne {k i : Nat} (h : i ≠ k) (o : AObj) (H : Heap) : hset k o H i = H i := by simp [hset, h]

structure Ctx where
  P : Program
  w0 : World
def Ctx.base (C : Ctx) : Nat := C.w0.heap.size

def ObjOk (n : Nat) (J : Nat → Nat × Nat) (w : World) (l : Nat × Nat) : AObj → Prop
  | .dead => True
  | .tight => l.2 = 0
  | .cells cs T sz => (∀ v ∈ cs, Und n v) ∧ ∃ tail : List Value, tail.length = l.2 * sz ∧ w.heap[l.1]? = some (.cells (cs.map (ren J) ++ tail).toArray T (0, 0))
  | .fixed cs T _ => (∀ v ∈ cs, Und n v) ∧ l.2 = 0 ∧ w.heap[l.1]? = some (.cells (cs.map (ren J)).toArray T (0, 0))
  | .map es clock => (∀ e ∈ es, flatK e.key = true ∧ Und n e.val) ∧ w.heap[l.1]? = some (.map (es.map (mapE (ren J))).toArray clock)
  | .iter m since seen last => (∀ k, m = some k → k < n) ∧ w.heap[l.1]? = some (.mapIter (m.map fun k => (J k).1) since seen.toArray last)
theorem ObjOk.has {n : Nat} {J : Nat → Nat × Nat} {w : World} {l : Nat × Nat} {o : AObj} (h : ObjOk n J w l o) (hl : o.live) : l.1 < w.heap.size := by
  cases o with
  | dead => exact hl.elim
  | tight => exact hl.elim
  | cells cs T sz => obtain ⟨_, _, _, hc⟩ := h; exact (Array.getElem?_eq_some_iff.1 hc).1
  | fixed cs T sz => exact (Array.getElem?_eq_some_iff.1 h.2.2).1
  | map es clock => exact (Array.getElem?_eq_some_iff.1 h.2).1
  | iter m since seen last => exact (Array.getElem?_eq_some_iff.1 h.2).1
structure St (C : Ctx) (n : Nat) (J : Nat → Nat × Nat) (H : Heap) (w : World) : Prop where
  below : Below C.base C.w0 w
  drw : C.w0.drawn ≤ w.drawn
  lo : ∀ i, i < n → C.base ≤ (J i).1
  obj : ∀ i, i < n → ObjOk n J w (J i) (H i)
  inj : ∀ i j, i < n → j < n → i ≠ j → (H i).live → (H j).live → (J i).1 ≠ (J j).1

/-- The cells of an object. -/
def gcell (o : AObj) (i : Nat) : Option Value := match o with
  | .cells cs _ _ => cs[i]?
  | .fixed cs _ _ => cs[i]?
  | _ => none
/-- One cell. -/
def get (C : Ctx) (H : Heap) (a : Addr) : Option Value :=
  if a.spot.isSome then none
  else if a.block % 2 = 0 then (C.w0.cell? ⟨a.block / 2, a.off, none⟩).map emb
  else gcell (H (a.block / 2)) a.off
def renA (J : Nat → Nat × Nat) (a : Addr) : Addr := ⟨(dec J a.block).1, a.off, a.spot⟩
theorem renA_add (J : Nat → Nat × Nat) (a : Addr) (k : Nat) : renA J (a.add k) = (renA J a).add k := by
  unfold Addr.add renA; split <;> rfl
theorem renA_add_mk (J : Nat → Nat × Nat) (a : Addr) (k : Nat) : renA J (a.add k) = (⟨(dec J a.block).1, a.off, a.spot⟩ : Addr).add k := renA_add J a k
def UndA (n : Nat) (a : Addr) : Prop := a.block % 2 = 1 → a.block / 2 < n
theorem UndA.add {n : Nat} {a : Addr} (h : UndA n a) (k : Nat) : UndA n (a.add k) := by
  unfold Addr.add; split <;> exact h

theorem get_sound {C : Ctx} {n : Nat} {J : Nat → Nat × Nat} {H : Heap} {w : World} (hs : St C n J H w) {a : Addr} (ha : UndA n a) {v : Value}
    (hg : get C H a = some v) : w.cell? (renA J a) = some (ren J v) ∧ Und n v := by
  unfold get at hg
  split at hg
  · cases hg
  · rename_i hspot
    split at hg
    · rename_i hev
      obtain ⟨u, hu, rfl⟩ := Option.map_eq_some_iff.1 hg
      refine ⟨?_, und_emb _ _⟩
      rw [ren_emb]
      have hlt := World.block_lt_of_cell? _ _ hu
      have hb := hs.below.cell (p := ⟨a.block / 2, a.off, none⟩) hlt
      have : renA J a = ⟨a.block / 2, a.off, none⟩ := by
        unfold renA dec
        rw [if_pos hev]
        cases hsp : a.spot with
        | none => rfl
        | some _ => simp [hsp] at hspot
      rw [this, hb, hu]
    · rename_i hod
      have hlt := ha (by omega)
      have ho := hs.obj _ hlt
      have hd : dec J a.block = J (a.block / 2) := by unfold dec; rw [if_neg hod]
      have hsp : a.spot.isSome = false := by simpa using hspot
      cases hH : H (a.block / 2) with
      | cells cs T sz =>
        rw [hH] at ho hg
        simp only [gcell] at hg
        obtain ⟨hu, tail, htl, hw⟩ := ho
        refine ⟨?_, hu v (List.mem_of_getElem? hg)⟩
        unfold World.cell? renA
        simp only [hd, hw, hsp]
        obtain ⟨hlt2, hv⟩ := List.getElem?_eq_some_iff.1 hg
        simp [List.getElem?_append, hlt2, hv]
      | fixed cs T sz =>
        rw [hH] at ho hg
        simp only [gcell] at hg
        obtain ⟨hu, _, hw⟩ := ho
        refine ⟨?_, hu v (List.mem_of_getElem? hg)⟩
        unfold World.cell? renA
        simp only [hd, hw, hsp]
        obtain ⟨hlt2, hv⟩ := List.getElem?_eq_some_iff.1 hg
        simp [hlt2, hv]
      | _ => rw [hH] at hg; cases hg

/-! ### New objects and stores -/
def jset (k : Nat) (l : Nat × Nat) (J : Nat → Nat × Nat) : Nat → Nat × Nat := fun i => if i = k then l else J i
@[simp] theorem jset_same (k : Nat) (l : Nat × Nat) (J : Nat → Nat × Nat) : jset k l J k = l := by simp [jset]
theorem jset_ne {k i : Nat} (h : i ≠ k) (l : Nat × Nat) (J : Nat → Nat × Nat) : jset k l J i = J i := by simp [jset, h]
theorem Und.jset {n : Nat} {v : Value} (h : Und n v) (l : Nat × Nat) (J : Nat → Nat × Nat) : ren (Aw.jset n l J) v = ren J v :=
  h _ _ fun i hi => by simp [Aw.jset, Nat.ne_of_lt hi]

theorem map_und {n : Nat} {J J' : Nat → Nat × Nat} (hJ : ∀ i, i < n → J i = J' i) {cs : List Value} (hu : ∀ v ∈ cs, Und n v) : cs.map (ren J) = cs.map (ren J') :=
  List.map_congr_left fun v hv => hu v hv J J' hJ
theorem mapE_und {n : Nat} {J J' : Nat → Nat × Nat} (hJ : ∀ i, i < n → J i = J' i) {es : List MapEntry} (hu : ∀ e ∈ es, flatK e.key = true ∧ Und n e.val) : es.map (mapE (ren J)) = es.map (mapE (ren J')) :=
  List.map_congr_left fun e he => by unfold mapE; rw [(hu e he).2 J J' hJ]
theorem ObjOk.keep {n m : Nat} {J J' : Nat → Nat × Nat} {w w' : World} {l : Nat × Nat} {o : AObj} (h : ObjOk n J w l o) (hm : n ≤ m)
    (hJ : ∀ i, i < n → J i = J' i) (hw : o.live → w'.heap[l.1]? = w.heap[l.1]?) : ObjOk m J' w' l o := by
  cases o with
  | dead => trivial
  | tight => exact h
  | cells cs T sz =>
    obtain ⟨hu, tail, ht, hc⟩ := h
    refine ⟨fun v hv => (hu v hv).mono hm, tail, ht, ?_⟩
    rw [hw trivial, hc, map_und hJ hu]
  | fixed cs T sz =>
    obtain ⟨hu, ht, hc⟩ := h
    refine ⟨fun v hv => (hu v hv).mono hm, ht, ?_⟩
    rw [hw trivial, hc, map_und hJ hu]
  | map es clock =>
    obtain ⟨hu, hc⟩ := h
    refine ⟨fun e he => ⟨(hu e he).1, (hu e he).2.mono hm⟩, ?_⟩
    rw [hw trivial, hc, mapE_und hJ hu]
  | iter q since seen last =>
    obtain ⟨hu, hc⟩ := h
    refine ⟨fun k hk => Nat.lt_of_lt_of_le (hu k hk) hm, ?_⟩
    rw [hw trivial, hc]
    cases q with
    | none => rfl
    | some k => simp only [Option.map_some, hJ k (hu k rfl)]

theorem St.blk {C : Ctx} {n : Nat} {J : Nat → Nat × Nat} {H : Heap} {w : World} (hs : St C n J H w) {i : Nat} (hi : i < n) (hl : (H i).live) : (J i).1 < w.heap.size := (hs.obj i hi).has hl
/-- The world got a new block, or a name for one. -/
theorem St.allocO {C : Ctx} {n : Nat} {J : Nat → Nat × Nat} {H : Heap} {w : World} (hs : St C n J H w) {o : AObj} {O : Obj} {ex : Nat}
    (ho : ObjOk (n + 1) (jset n (w.heap.size, ex) J) (w.alloc O) (w.heap.size, ex) o) : St C (n + 1) (jset n (w.heap.size, ex) J) (hset n o H) (w.alloc O) := by
  have hle : C.base ≤ w.heap.size := hs.below.size
  have hblk : ∀ i, i < n → (H i).live → (J i).1 < w.heap.size := fun i hi hl => hs.blk hi hl
  refine ⟨hs.below.alloc hle _, hs.drw, ?_, ?_, ?_⟩
  · intro i hi
    by_cases h : i = n
    · subst h; simpa using hle
    · rw [jset_ne h]; exact hs.lo i (by omega)
  · intro i hi
    by_cases h : i = n
    · subst h
      simp only [hset_same, jset_same]
      exact ho
    · rw [hset_ne h, jset_ne h]
      refine (hs.obj i (by omega)).keep (by omega) (fun j hj => by rw [jset_ne (by omega)]) fun hl => ?_
      have := hblk i (by omega) hl
      exact Below.heap_alloc w _ _ this
  · intro i j hi hj hij hli hlj
    by_cases h1 : i = n
    · subst h1
      have hj' : j < i := by omega
      rw [hset_ne (by omega)] at hlj
      rw [jset_same, jset_ne (by omega)]
      have := hblk j hj' hlj
      simp only; omega
    · by_cases h2 : j = n
      · subst h2
        rw [hset_ne h1] at hli
        rw [jset_same, jset_ne h1]
        have := hblk i (by omega) hli
        simp only; omega
      · rw [hset_ne h1] at hli
        rw [hset_ne h2] at hlj
        rw [jset_ne h1, jset_ne h2]
        exact hs.inj i j (by omega) (by omega) hij hli hlj
theorem heap_new (w : World) (o : Obj) : (w.alloc o).heap[w.heap.size]? = some o := by
  show (w.heap.push _)[w.heap.size]? = _
  simp
theorem St.alloc {C : Ctx} {n : Nat} {J : Nat → Nat × Nat} {H : Heap} {w : World} (hs : St C n J H w) {cs : List Value} {T sz : Nat} (hu : ∀ v ∈ cs, Und n v)
    {ex : Nat} {tail : List Value} (ht : tail.length = ex * sz) :
    St C (n + 1) (jset n (w.heap.size, ex) J) (hset n (.cells cs T sz) H) (w.alloc (.cells (cs.map (ren J) ++ tail).toArray T)) := by
  refine hs.allocO ⟨fun v hv => (hu v hv).mono (by omega), tail, ht, ?_⟩
  rw [heap_new, map_und (J := jset n (w.heap.size, ex) J) (J' := J) (n := n) (fun i hi => jset_ne (by omega) _ _) hu]
/-- Another name of an object's row. -/
theorem St.name {C : Ctx} {n : Nat} {J : Nat → Nat × Nat} {H : Heap} {w : World} (hs : St C n J H w) {b : Nat} (hb : C.base ≤ b) : St C (n + 1) (jset n (b, 0) J) (hset n .tight H) w := by
  refine ⟨hs.below, hs.drw, fun i hi => ?_, fun i hi => ?_, fun i j hi hj hij hli hlj => ?_⟩
  · by_cases h : i = n
    · subst h; simpa using hb
    · rw [jset_ne h]; exact hs.lo i (by omega)
  · by_cases h : i = n
    · subst h; simp only [hset_same, jset_same]; rfl
    · rw [hset_ne h, jset_ne h]
      exact (hs.obj i (by omega)).keep (by omega) (fun j hj => by rw [jset_ne (by omega)]) fun _ => rfl
  · by_cases h1 : i = n
    · subst h1; rw [hset_same] at hli; exact hli.elim
    · by_cases h2 : j = n
      · subst h2; rw [hset_same] at hlj; exact hlj.elim
      · rw [hset_ne h1] at hli
        rw [hset_ne h2] at hlj
        rw [jset_ne h1, jset_ne h2]
        exact hs.inj i j (by omega) (by omega) hij hli hlj
/-- An object that isn't a row is written. -/
theorem St.setO {C : Ctx} {n : Nat} {J : Nat → Nat × Nat} {H : Heap} {w : World} (hs : St C n J H w) {i : Nat} (hi : i < n) (hl : (H i).live) {o : AObj} {O : Obj}
    (ho : ObjOk n J { w with heap := w.heap.setIfInBounds (J i).1 O } (J i) o) : St C n J (hset i o H) { w with heap := w.heap.setIfInBounds (J i).1 O } := by
  have hlo := hs.lo i hi
  refine ⟨hs.below.trans ⟨rfl, rfl, rfl, by simp, fun k hk => by simp only [Array.getElem?_setIfInBounds]; rw [if_neg (by omega)]⟩, hs.drw, hs.lo, ?_, ?_⟩
  · intro j hj
    by_cases h : j = i
    · subst h; rw [hset_same]; exact ho
    · rw [hset_ne h]
      refine (hs.obj j hj).keep (Nat.le_refl _) (fun _ _ => rfl) fun hlj => ?_
      have hne : (J j).1 ≠ (J i).1 := hs.inj j i hj hi h hlj hl
      simp only [Array.getElem?_setIfInBounds]; rw [if_neg (fun e => hne e.symm)]
  · intro a b ha hb hab hla hlb
    refine hs.inj a b ha hb hab ?_ ?_
    · by_cases h : a = i
      · subst h; exact hl
      · rwa [hset_ne h] at hla
    · by_cases h : b = i
      · subst h; exact hl
      · rwa [hset_ne h] at hlb

theorem setIfInBounds_append (xs tail : List Value) (k : Nat) (v : Value) (hk : k < xs.length) : ((xs ++ tail).toArray.setIfInBounds k v) = (xs.set k v ++ tail).toArray := by
  simp [List.set_append, hk]

/-- A cell of an object is written. -/
theorem St.store {C : Ctx} {n : Nat} {J : Nat → Nat × Nat} {H : Heap} {w : World} (hs : St C n J H w) {i : Nat} (hi : i < n) {cs : List Value} {T sz : Nat}
    (hH : H i = .cells cs T sz) {k : Nat} (hk : k < cs.length) {v : Value} (hv : Und n v) :
    St C n J (hset i (.cells (cs.set k v) T sz) H) (w.setCell ⟨(J i).1, k, none⟩ (ren J v)) := by
  have ho := hs.obj i hi
  rw [hH] at ho
  obtain ⟨hu, tail, ht, hc⟩ := ho
  refine ⟨hs.below.setCell (hs.lo i hi) _, hs.drw, hs.lo, ?_, ?_⟩
  · intro j hj
    by_cases h : j = i
    · subst h
      rw [hset_same]
      refine ⟨fun u hu' => ?_, tail, ht, ?_⟩
      · rcases List.mem_or_eq_of_mem_set hu' with h | h
        · exact hu u h
        · rw [h]; exact hv
      · unfold World.setCell
        rw [Array.getElem?_modify, if_pos rfl, hc]
        simp only [Option.map_some]
        have := setIfInBounds_append (cs.map (ren J)) tail k (ren J v) (by simpa using hk)
        simp only [Option.isSome_none, Bool.false_eq_true, if_false, this, List.map_set]
    · rw [hset_ne h]
      refine (hs.obj j hj).keep (Nat.le_refl _) (fun _ _ => rfl) fun hl => ?_
      have hne : (J j).1 ≠ (J i).1 := hs.inj j i hj hi h hl (by rw [hH]; trivial)
      exact Below.heap_setCell w _ _ _ hne
  · intro a b ha hb hab hla hlb
    refine hs.inj a b ha hb hab ?_ ?_
    · by_cases h : a = i
      · subst h; rw [hH]; trivial
      · rwa [hset_ne h] at hla
    · by_cases h : b = i
      · subst h; rw [hH]; trivial
      · rwa [hset_ne h] at hlb
/-- It may be written. -/
theorem St.free {C : Ctx} {n : Nat} {J : Nat → Nat × Nat} {H : Heap} {w : World} (hs : St C n J H w) {i : Nat} (hi : i < n) {cs : List Value} {T sz : Nat}
    (hH : H i = .cells cs T sz) (k : Nat) : w.frozen? ⟨(J i).1, k, none⟩ = false := by
  have ho := hs.obj i hi
  rw [hH] at ho
  obtain ⟨hu, tail, ht, hc⟩ := ho
  unfold World.frozen?
  simp [hc]
theorem St.drew {C : Ctx} {n : Nat} {J : Nat → Nat × Nat} {H : Heap} {w : World} (hs : St C n J H w) : St C n J H { w with drawn := w.drawn + 1 } :=
  ⟨hs.below.drew, Nat.le_succ_of_le hs.drw, hs.lo, hs.obj, hs.inj⟩
/-- Weaker: an object is forgotten. -/
theorem St.weak {C : Ctx} {n : Nat} {J : Nat → Nat × Nat} {H H' : Heap} {w : World} (hs : St C n J H w) (h : ∀ i, i < n → H' i = .dead ∨ H' i = H i) : St C n J H' w := by
  refine ⟨hs.below, hs.drw, hs.lo, fun i hi => ?_, fun i j hi hj hij hli hlj => ?_⟩
  · rcases h i hi with e | e
    · rw [e]; trivial
    · rw [e]; exact hs.obj i hi
  · rcases h i hi with e | e
    · rw [e] at hli; exact hli.elim
    · rcases h j hj with e' | e'
      · rw [e'] at hlj; exact hlj.elim
      · rw [e] at hli; rw [e'] at hlj; exact hs.inj i j hi hj hij hli hlj

/-- A row that has no room behind it is one that may have. -/
def AObj.loose : AObj → AObj
  | .fixed cs T sz => .cells cs T sz
  | o => o
theorem ObjOk.loose {n : Nat} {J : Nat → Nat × Nat} {w : World} {l : Nat × Nat} {o : AObj} (h : ObjOk n J w l o) : ObjOk n J w l o.loose := by
  cases o with
  | fixed cs T sz => obtain ⟨h1, h2, h3⟩ := h; exact ⟨h1, [], by rw [h2]; simp, by simpa using h3⟩
  | _ => exact h
theorem AObj.loose_live {o : AObj} : o.loose.live ↔ o.live := by cases o <;> exact Iff.rfl
theorem St.loose {C : Ctx} {n : Nat} {J : Nat → Nat × Nat} {H H' : Heap} {w : World} (hs : St C n J H w) (h : ∀ i, i < n → H' i = H i ∨ H' i = (H i).loose) : St C n J H' w := by
  have hl : ∀ i, i < n → (H' i).live → (H i).live := fun i hi hl => by
    rcases h i hi with e | e
    · rw [e] at hl; exact hl
    · rw [e] at hl; exact AObj.loose_live.1 hl
  refine ⟨hs.below, hs.drw, hs.lo, fun i hi => ?_, fun i j hi hj hij hli hlj => hs.inj i j hi hj hij (hl i hi hli) (hl j hj hlj)⟩
  rcases h i hi with e | e
  · rw [e]; exact hs.obj i hi
  · rw [e]; exact (hs.obj i hi).loose
/-- The values of an object, renamed. -/
def AObj.sub (σ : Nat → Nat) : AObj → AObj
  | .dead => .dead
  | .tight => .tight
  | .cells cs T sz => .cells (cs.map (Aw.sub σ)) T sz
  | .fixed cs T sz => .fixed (cs.map (Aw.sub σ)) T sz
  | .map es clock => .map (es.map (mapE (Aw.sub σ))) clock
  | .iter m since seen last => .iter (m.map σ) since seen last
def AObj.und (n : Nat) : AObj → Prop
  | .dead => True
  | .tight => True
  | .cells cs _ _ => ∀ v ∈ cs, Und n v
  | .fixed cs _ _ => ∀ v ∈ cs, Und n v
  | .map es _ => ∀ e ∈ es, Und n e.val
  | .iter m _ _ _ => ∀ k, m = some k → k < n
theorem ObjOk.und {n : Nat} {J : Nat → Nat × Nat} {w : World} {l : Nat × Nat} {o : AObj} (h : ObjOk n J w l o) : o.und n := by
  cases o with
  | dead => trivial
  | tight => trivial
  | cells cs T sz => exact h.1
  | fixed cs T sz => exact h.1
  | map es clock => exact fun e he => (h.1 e he).2
  | iter m since seen last => exact h.1
theorem AObj.sub_live {σ : Nat → Nat} {o : AObj} : (o.sub σ).live ↔ o.live := by cases o <;> exact Iff.rfl
theorem ObjOk.renum {n m : Nat} {J : Nat → Nat × Nat} {w : World} {l : Nat × Nat} {o : AObj} {σ : Nat → Nat} (h : ObjOk n J w l (o.sub σ)) (hu : o.und m) : ObjOk m (fun i => J (σ i)) w l o := by
  have hr : (ren J ∘ Aw.sub σ) = ren (fun i => J (σ i)) := by funext v; exact ren_sub J σ v
  cases o with
  | dead => trivial
  | tight => exact h
  | cells cs T sz =>
    obtain ⟨_, tail, ht, hc⟩ := h
    refine ⟨hu, tail, ht, ?_⟩
    rw [hc, List.map_map, hr]
  | fixed cs T sz =>
    obtain ⟨_, ht, hc⟩ := h
    refine ⟨hu, ht, ?_⟩
    rw [hc, List.map_map, hr]
  | map es clock =>
    obtain ⟨hf, hc⟩ := h
    refine ⟨fun e he => ⟨(hf (mapE (Aw.sub σ) e) (List.mem_map_of_mem he)).1, hu e he⟩, ?_⟩
    rw [hc, List.map_map]
    have : (mapE (ren J) ∘ mapE (Aw.sub σ)) = mapE (ren fun i => J (σ i)) := by
      funext e; simp only [Function.comp, mapE, ren_sub]
    rw [this]
  | iter q since seen last =>
    obtain ⟨_, hc⟩ := h
    refine ⟨hu, ?_⟩
    rw [hc, Option.map_map]; rfl
/-- The objects are numbered anew: number i is what was number σ i. -/
theorem St.renum {C : Ctx} {n m : Nat} {J : Nat → Nat × Nat} {H H' : Heap} {w : World} (hs : St C n J H w) (σ : Nat → Nat)
    (hσ : ∀ i, i < m → σ i < n) (hinj : ∀ i j, i < m → j < m → (H' i).live → (H' j).live → σ i = σ j → i = j)
    (hH : ∀ i, i < m → H' i = .dead ∨ (H' i).und m ∧ H (σ i) = (H' i).sub σ) : St C m (fun i => J (σ i)) H' w := by
  refine ⟨hs.below, hs.drw, fun i hi => hs.lo _ (hσ i hi), fun i hi => ?_, fun i j hi hj hij hli hlj => ?_⟩
  · rcases hH i hi with e | ⟨hu, e⟩
    · rw [e]; trivial
    · have ho := hs.obj _ (hσ i hi)
      rw [e] at ho
      exact ho.renum hu
  · have hl : ∀ k, k < m → (H' k).live → (H (σ k)).live := by
      intro k hk hl
      rcases hH k hk with e | ⟨_, e⟩
      · rw [e] at hl; exact hl.elim
      · rw [e]; exact AObj.sub_live.2 hl
    refine hs.inj _ _ (hσ i hi) (hσ j hj) (fun h => hij (hinj i j hi hj hli hlj h)) (hl i hi hli) (hl j hj hlj)
end Go.Aw
