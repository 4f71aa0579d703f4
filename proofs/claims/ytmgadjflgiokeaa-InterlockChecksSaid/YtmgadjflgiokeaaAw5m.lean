/-
  The abstract machine, part 5m: maps, iterators, rows that are made, copied, cut.
-/
import Derived.Test.YtmgadjflgiokeaaAw5
import Derived.MapKept
import GoSem.Builtin.Copy
import GoSem.Builtin.Cap
set_option linter.unusedSimpArgs false
set_option linter.unusedVariables false
namespace Go.Aw
open Go.RowKit

/-! ### Types -/
def mapT (P : Program) (t : TypeId) : Option (TypeId × TypeId) :=
  match P.underlying t with
  | some (.map k e) => some (k, e)
  | _ => none
theorem mapT_some {P : Program} {t k e : TypeId} (h : mapT P t = some (k, e)) : P.underlying t = some (.map k e) := by
  unfold mapT at h
  split at h
  · rename_i hu
    simp only [Option.some.injEq, Prod.mk.injEq] at h
    obtain ⟨rfl, rfl⟩ := h
    exact hu
  · cases h
def flatZ : Value → Bool
  | .agg cs => cs.toList.all flat
  | v => flat v
theorem flatZ_ren {v : Value} (h : flatZ v = true) (g : Nat → Nat × Nat) : renV g v = v := by
  cases v with
  | agg cs =>
    rw [renV_agg]
    simp only [flatZ, List.all_eq_true] at h
    have : cs.map (renV g) = cs.map id := map_congr_mem fun x hx => flat_ren (h x (by simpa using hx)) g
    rw [this, Array.map_id]
  | _ => exact flat_ren h g
theorem flatZ_und {n : Nat} {v : Value} (h : flatZ v = true) : Und n v := fun J J' _ => by rw [ren, ren, flatZ_ren h, flatZ_ren h]
/-- A type's zero value. -/
def zeroV (P : Program) (t : TypeId) : Option Value :=
  match P.info? t with
  | some i => match i.zero with
    | some z => if flatZ z then some z else none
    | none => none
  | none => none
theorem zeroV_some {P : Program} {t : TypeId} {z : Value} (h : zeroV P t = some z) : ∃ i, P.info? t = some i ∧ i.zero = some z ∧ flatZ z = true := by
  unfold zeroV at h
  split at h
  · rename_i i hi
    split at h
    · rename_i v hv
      split at h
      · rename_i hf
        obtain rfl := Option.some.inj h
        exact ⟨i, hi, hv, hf⟩
      · cases h
    · cases h
  · cases h

/-! ### Keys -/
def cellIs : Value → Value → Bool
  | .bool a, .bool b => a == b
  | .int k a, .int q b => decide (k = q) && a == b
  | .string a, .string b => decide (a = b)
  | _, _ => false
def cellsIs : List Value → List Value → Bool
  | [], [] => true
  | a :: r, b :: s => cellIs a b && cellsIs r s
  | _, _ => false
/-- Whether two keys are the same. -/
def keyIs : Value → Value → Bool
  | .agg xs, .agg ys => cellsIs xs.toList ys.toList
  | a, b => cellIs a b
theorem cellIs_eq {a b : Value} (h : cellIs a b = true) : a = b := by
  unfold cellIs at h
  split at h <;> simp_all
theorem cellsIs_eq : ∀ {xs ys : List Value}, cellsIs xs ys = true → xs = ys
  | [], [], _ => rfl
  | a :: r, b :: s, h => by
    simp only [cellsIs, Bool.and_eq_true] at h
    rw [cellIs_eq h.1, cellsIs_eq h.2]
  | [], _ :: _, h => by simp [cellsIs] at h
  | _ :: _, [], h => by simp [cellsIs] at h
theorem keyIs_eq {a b : Value} (h : keyIs a b = true) : a = b := by
  unfold keyIs at h
  split at h
  · rename_i xs ys
    have := cellsIs_eq h
    congr 1
    exact Array.ext' this
  · exact cellIs_eq h
def primK (P : Program) (kt : TypeId) (v : Value) : Bool :=
  match P.underlying kt, v with
  | some .bool, .bool _ => true
  | some (.int q), .int q' _ => decide (q' = q)
  | some .string, .string _ => true
  | _, _ => false
theorem primK_isKey {P : Program} {kt : TypeId} {v : Value} (h : primK P kt v = true) : ∃ d, P.underlying kt = some d ∧ MapKept.IsKey d v := by
  unfold primK at h
  split at h
  · rename_i hu; exact ⟨_, hu, trivial⟩
  · rename_i hu; exact ⟨_, hu, show _ = _ by simpa using h⟩
  · rename_i hu; exact ⟨_, hu, trivial⟩
  · cases h
theorem isKey_flatK {d : TypeDesc} {v : Value} (h : MapKept.IsKey d v) : flatK v = true := by
  cases d <;> cases v <;> simp_all [MapKept.IsKey, flatK]
theorem sameNow_keyIs {d : TypeDesc} {a b : Value} (ha : MapKept.IsKey d a) (hb : MapKept.IsKey d b) : Instr.sameNow d a b = some (keyIs a b) := by
  have hs : ∀ x y : ByteArray, (x == y) = decide (x = y) := fun x y => by
    rw [Bool.eq_iff_iff, MapKept.bytes_beq, decide_eq_true_iff]
  cases d <;> cases a <;> cases b <;> simp_all [MapKept.IsKey, Instr.sameNow, keyIs, cellIs]
/-- The keys of a map's entries can be compared with a key. -/
inductive KeysOk (P : Program) (kt : TypeId) (key : Value) (es : List MapEntry) : Prop
  | prim (h1 : primK P kt key = true) (h2 : ∀ e ∈ es, primK P kt e.key = true) : KeysOk P kt key es
  | cells (xs : Array Value) (hk : key = .agg xs) (hf : flatK key = true) (hc : ∀ b w, (Instr.checkKey b 10000 kt key).run P w = .ok () w)
      (hd : ∃ d, P.underlying kt = some d ∧ ∀ a b, Instr.sameNow d (.agg a) b = none) (h2 : ∀ e ∈ es, ∃ ys, e.key = .agg ys ∧ EqRun P kt xs.toList ys.toList (keyIs key e.key)) : KeysOk P kt key es
theorem KeysOk.flatK {P : Program} {kt : TypeId} {key : Value} {es : List MapEntry} (h : KeysOk P kt key es) : flatK key = true := by
  cases h with
  | prim h1 _ => obtain ⟨d, _, hk⟩ := primK_isKey h1; exact isKey_flatK hk
  | cells xs hk hf => exact hf
theorem KeysOk.check {P : Program} {kt : TypeId} {key : Value} {es : List MapEntry} (h : KeysOk P kt key es) (b : Bool) (w : World) : (Instr.checkKey b 10000 kt key).run P w = .ok () w := by
  cases h with
  | prim h1 _ => obtain ⟨d, hd, hk⟩ := primK_isKey h1; exact MapKept.run_checkKey hd hk b 9999
  | cells xs hk hf hc => exact hc b w
/-- The entry of a key. -/
def findE (key : Value) : List MapEntry → Nat → Option (Nat × MapEntry)
  | [], _ => none
  | e :: es, i => if keyIs key e.key then some (i, e) else findE key es (i + 1)
theorem findE_some {key : Value} : ∀ {es : List MapEntry} {i j : Nat} {e : MapEntry}, findE key es i = some (j, e) → i ≤ j ∧ es[j - i]? = some e ∧ e.key = key
  | [], _, _, _, h => by simp [findE] at h
  | x :: es, i, j, e, h => by
    simp only [findE] at h
    split at h
    · rename_i hk
      simp only [Option.some.injEq, Prod.mk.injEq] at h
      obtain ⟨rfl, rfl⟩ := h
      exact ⟨Nat.le_refl _, by simp, (keyIs_eq hk).symm⟩
    · obtain ⟨h1, h2, h3⟩ := findE_some h
      refine ⟨by omega, ?_, h3⟩
      rw [show j - i = (j - (i + 1)) + 1 by omega]
      simpa using h2
theorem findNow_keyIs {d : TypeDesc} {key : Value} (hk : MapKept.IsKey d key) (f : Value → Value) : ∀ (es : List MapEntry) (i : Nat), (∀ e ∈ es, MapKept.IsKey d e.key) → Instr.findNow d key (es.map (mapE f)) i = some ((findE key es i).map fun p => (p.1, f p.2.val))
  | [], _, _ => rfl
  | e :: es, i, h => by
    simp only [List.map_cons, Instr.findNow, mapE_key, sameNow_keyIs hk (h e (List.mem_cons_self ..)), findE]
    cases keyIs key e.key with
    | true => simp
    | false => simpa using findNow_keyIs hk f es (i + 1) (fun x hx => h x (List.mem_cons_of_mem _ hx))
theorem findAsking_keyIs {P : Program} {kt : TypeId} {xs : Array Value} (f : Value → Value) (w : World) : ∀ (es : List MapEntry) (i : Nat), (∀ e ∈ es, ∃ ys, e.key = .agg ys ∧ EqRun P kt xs.toList ys.toList (keyIs (.agg xs) e.key)) →
    (Instr.findAsking kt (.agg xs) (es.map (mapE f)) i).run P w = .ok ((findE (.agg xs) es i).map fun p => (p.1, f p.2.val)) w
  | [], _, _ => rfl
  | e :: es, i, h => by
    obtain ⟨ys, hy, he⟩ := h e (List.mem_cons_self ..)
    have hr := he.2.2.2 w
    simp only [Array.toArray_toList] at hr
    simp only [List.map_cons, Instr.findAsking, mapE_key, hy, Sem.run_bind, hr, Result.andThen_ok, findE]
    rw [← hy]
    cases keyIs (.agg xs) e.key with
    | true => simp
    | false => simpa using findAsking_keyIs f w es (i + 1) (fun x hx => h x (List.mem_cons_of_mem _ hx))
theorem KeysOk.find {P : Program} {kt : TypeId} {key : Value} {es : List MapEntry} (h : KeysOk P kt key es) (f : Value → Value) (w : World) :
    (Instr.findKey kt key (es.map (mapE f))).run P w = .ok ((findE key es 0).map fun p => (p.1, f p.2.val)) w := by
  cases h with
  | prim h1 h2 =>
    obtain ⟨d, hd, hk⟩ := primK_isKey h1
    refine MapKept.run_findKey hd (findNow_keyIs hk f es 0 fun e he => ?_)
    obtain ⟨d', hd', hk'⟩ := primK_isKey (h2 e he)
    rw [hd] at hd'
    obtain rfl := Option.some.inj hd'
    exact hk'
  | cells xs hk hf hc hd h2 =>
    subst hk
    obtain ⟨d, hd, hn⟩ := hd
    cases es with
    | nil => simp [Instr.findKey, run_under hd, Instr.findNow, findE]
    | cons e es =>
      have h1 : Instr.findNow d (.agg xs) ((e :: es).map (mapE f)) 0 = none := by
        simp only [List.map_cons, Instr.findNow, hn]
      have h3 := findAsking_keyIs f w (e :: es) 0 h2
      simp only [Instr.findKey, Sem.run_bind, run_under hd, Result.andThen_ok, h1, h3]
theorem sameBits_cell {v : Value} (n : Nat) (h : (match v with | .bool _ | .int _ _ | .string _ => true | _ => false) = true) : Instr.sameBits n v v = true := by
  cases v <;> simp_all [Instr.sameBits, MapKept.bytes_beq]
theorem sameBits_flatK {v : Value} (n : Nat) (h : flatK v = true) : Instr.sameBits (n + 1) v v = true := by
  cases v with
  | agg cs =>
    simp only [flatK, List.all_eq_true] at h
    simp only [Instr.sameBits, beq_self_eq_true, Bool.true_and, List.all_eq_true]
    rintro ⟨x, y⟩ hxy
    obtain ⟨i, hi, he⟩ := List.getElem_of_mem hxy
    simp only [List.getElem_zip, Prod.mk.injEq] at he
    obtain ⟨rfl, rfl⟩ := he
    exact sameBits_cell n (h _ (List.getElem_mem _))
  | bool _ => exact sameBits_cell _ rfl
  | int _ _ => exact sameBits_cell _ rfl
  | string _ => exact sameBits_cell _ rfl
  | _ => simp [flatK] at h
theorem run_stays {P : Program} {v : Value} (h : flatK v = true) (w : World) : (Instr.keyThatStays v v).run P w = .ok v w := by
  simp [Instr.keyThatStays, sameBits_flatK 9999 h]

/-! ### Entries -/
def updE (key v : Value) (es : List MapEntry) (clock : Nat) : List MapEntry :=
  match findE key es 0 with
  | some (i, e) => es.set i { key := key, val := v, born := e.born }
  | none => es ++ [{ key := key, val := v, born := clock }]
def updC (key : Value) (es : List MapEntry) (clock : Nat) : Nat :=
  match findE key es 0 with
  | some _ => clock
  | none => clock + 1
def delE (key : Value) (es : List MapEntry) : List MapEntry :=
  match findE key es 0 with
  | some (i, _) => es.eraseIdx i
  | none => es
theorem mem_updE {key v : Value} {es : List MapEntry} {clock : Nat} {e : MapEntry} (h : e ∈ updE key v es clock) : e ∈ es ∨ e.key = key ∧ e.val = v := by
  unfold updE at h
  split at h
  · rcases List.mem_or_eq_of_mem_set h with h | rfl
    · exact .inl h
    · exact .inr ⟨rfl, rfl⟩
  · rcases List.mem_append.1 h with h | h
    · exact .inl h
    · simp only [List.mem_singleton] at h
      subst h
      exact .inr ⟨rfl, rfl⟩
theorem mem_delE {key : Value} {es : List MapEntry} {e : MapEntry} (h : e ∈ delE key es) : e ∈ es := by
  unfold delE at h
  split at h
  · exact List.mem_of_mem_eraseIdx h
  · exact h

section
variable {C : Ctx} {n : Nat} {J : Nat → Nat × Nat} {H : Heap} {w : World}
/-- The entries of a map. -/
def mobj (C : Ctx) (H : Heap) (r : Nat) : Option (List MapEntry) :=
  if r % 2 = 0 then match C.w0.heap[r / 2]? with
    | some (.map es _) => if es.toList.all (fun e => flatK e.key) then some (es.toList.map (mapE emb)) else none
    | _ => none
  else match H (r / 2) with
    | .map es _ => some es
    | _ => none
def UndM (n r : Nat) : Prop := r % 2 = 1 → r / 2 < n
theorem und_mapr {n r : Nat} : Und n (.map (some r)) ↔ UndM n r := by
  constructor
  · intro h ho
    by_cases hl : r / 2 < n
    · exact hl
    · have := h (fun _ => (0, 0)) (fun i => if i < n then (0, 0) else (1, 0)) (fun i hi => by simp [hi])
      simp [dec, ho, hl] at this
  · intro h J J' e
    simp only [renV_map]
    have : dec J r = dec J' r := by
      unfold dec
      split
      · rfl
      · exact e _ (h (by omega))
    rw [this]
@[simp] theorem und_map_new {n k : Nat} : Und n (.map (some (new k))) ↔ k < n := by
  rw [und_mapr]; unfold UndM; simp only [new]; omega
theorem mobj_sound (hs : St C n J H w) {r : Nat} (hr : UndM n r) {es : List MapEntry} (h : mobj C H r = some es) :
    (∃ clock, w.heap[(dec J r).1]? = some (.map (es.map (mapE (ren J))).toArray clock)) ∧ ∀ e ∈ es, flatK e.key = true ∧ Und n e.val := by
  unfold mobj at h
  split at h
  · rename_i hev
    split at h
    · rename_i l clock hw
      split at h
      · rename_i hall
        obtain rfl := Option.some.inj h
        simp only [List.all_eq_true] at hall
        have hlt : r / 2 < C.base := (Array.getElem?_eq_some_iff.1 hw).1
        refine ⟨⟨clock, ?_⟩, ?_⟩
        · have : dec J r = (r / 2, 0) := by unfold dec; rw [if_pos hev]
          rw [this, hs.below.block _ hlt, hw, List.map_map]
          have : (mapE (ren J) ∘ mapE emb) = id := by
            funext e; cases e; simp only [Function.comp, mapE, ren_emb, id]
          rw [this, List.map_id]
        · intro e he
          obtain ⟨x, hx, rfl⟩ := List.mem_map.1 he
          exact ⟨hall x hx, und_emb _ _⟩
      · cases h
    · cases h
  · rename_i hod
    split at h
    · rename_i l clock hH
      obtain rfl := Option.some.inj h
      have ho := hs.obj _ (hr (by omega))
      rw [hH] at ho
      refine ⟨⟨clock, ?_⟩, ho.1⟩
      have : dec J r = J (r / 2) := by unfold dec; rw [if_neg hod]
      rw [this]; exact ho.2
    · cases h
/-- What a lookup yields. -/
def lkV (ok : Bool) (z : Value) (r : Option (Nat × MapEntry)) : Value :=
  match r with
  | some (_, e) => if ok then .tuple #[e.val, .bool true] else e.val
  | none => if ok then .tuple #[z, .bool false] else z
def mapEs (C : Ctx) (H : Heap) : Value → Option (List MapEntry)
  | .map none => some []
  | .map (some r) => mobj C H r
  | _ => none
def lookK (C : Ctx) (H : Heap) (t : TypeId) (m key : Value) (ok : Bool) (k : Value → Prop) : Prop :=
  optK (mapT C.P t) fun q => optK (mapEs C H m) fun es => KeysOk C.P q.1 key es ∧ optK (zeroV C.P q.2) fun z => k (lkV ok z (findE key es 0))
theorem lookK_sound (hs : St C n J H w) {t : TypeId} {m key : Value} {ok : Bool} {k : Value → Prop} (hm : Und n m) (h : lookK C H t m key ok k) :
    ∃ v, (Instr.lookup t (ren J m) (ren J key) ok).run C.P w = .ok (ren J v) w ∧ Und n v ∧ k v := by
  obtain ⟨⟨kt, et⟩, ht, h⟩ := optK_ex h
  obtain ⟨es, hes, hk, h⟩ := optK_ex h
  obtain ⟨z, hz, h⟩ := optK_ex h
  obtain ⟨i, hi, hiz, hzf⟩ := zeroV_some hz
  have hu := mapT_some ht
  have hkr : ren J key = key := flatK_ren hk.flatK _
  have key1 : ((ren J m = .map none ∧ es = []) ∨ ∃ r clock, ren J m = .map (some r) ∧ w.heap[r]? = some (.map (es.map (mapE (ren J))).toArray clock)) ∧ ∀ e ∈ es, Und n e.val := by
    cases m with
    | map r =>
      cases r with
      | none =>
        simp only [mapEs, Option.some.injEq] at hes
        subst hes
        exact ⟨.inl ⟨by simp, rfl⟩, by simp⟩
      | some r =>
        obtain ⟨⟨clock, h1⟩, h2⟩ := mobj_sound hs (und_mapr.1 hm) hes
        exact ⟨.inr ⟨_, clock, by simp, h1⟩, fun e he => (h2 e he).2⟩
    | _ => simp [mapEs] at hes
  obtain ⟨hA, hund⟩ := key1
  simp only at hu hk hi
  have hfk := hk.find (ren J) w
  refine ⟨_, ?_, ?_, h⟩
  · rcases hA with ⟨e1, rfl⟩ | ⟨r, clock, e1, hw⟩
    · simp only [List.map_nil] at hfk
      simp only [Instr.lookup, Sem.run_bind, run_under hu, Result.andThen_ok, e1, hkr, Sem.run_pure, hk.check, hfk, findE, Option.map_none, run_zero hi hiz, lkV]
      cases ok <;> simp [flatZ_ren hzf]
    · simp only [Instr.lookup, Sem.run_bind, run_under hu, Result.andThen_ok, e1, hkr, Sem.run_pure, MapKept.run_getObj_map hw, hk.check, hfk]
      cases hf : findE key es 0 with
      | none =>
        simp only [Option.map_none, Sem.run_bind, run_zero hi hiz, Result.andThen_ok, Sem.run_pure, lkV]
        cases ok <;> simp [flatZ_ren hzf]
      | some p =>
        obtain ⟨j, e⟩ := p
        simp only [Option.map_some, Sem.run_pure, Result.andThen_ok, lkV]
        cases ok <;> simp
  · cases hf : findE key es 0 with
    | none =>
      simp only [lkV]
      cases ok with
      | true => exact und_tuple (by simp [flatZ_und hzf])
      | false => exact flatZ_und hzf
    | some p =>
      obtain ⟨j, e⟩ := p
      obtain ⟨_, h2, _⟩ := findE_some hf
      have hv := hund e (List.mem_of_getElem? h2)
      simp only [lkV]
      cases ok with
      | true => exact und_tuple (by simp [hv])
      | false => exact hv
/-- A map of the program's own is written. -/
def updK (C : Ctx) (H : Heap) (t : TypeId) (m key v : Value) (k : Heap → Prop) : Prop :=
  ∃ j es clock q, m = .map (some (new j)) ∧ H j = .map es clock ∧ mapT C.P t = some q ∧ KeysOk C.P q.1 key es ∧ k (hset j (.map (updE key v es clock) (updC key es clock)) H)
theorem new_half_ (k : Nat) : new k / 2 = k := by unfold new; omega
theorem dec_new_ (J : Nat → Nat × Nat) (k : Nat) : dec J (new k) = J k := dec_new J k
theorem St.setMap (hs : St C n J H w) {j : Nat} (hj : j < n) {es es' : List MapEntry} {clock clock' : Nat} (hH : H j = .map es clock) (hu : ∀ e ∈ es', flatK e.key = true ∧ Und n e.val) :
    St C n J (hset j (.map es' clock') H) { w with heap := w.heap.setIfInBounds (J j).1 (.map (es'.map (mapE (ren J))).toArray clock') } := by
  have hl : (H j).live := by rw [hH]; trivial
  refine hs.setO hj hl ⟨hu, ?_⟩
  have := hs.blk hj hl
  simp [this]
theorem updK_sound (hs : St C n J H w) {t : TypeId} {m key v : Value} {k : Heap → Prop} (hm : Und n m) (hv : Und n v) (h : updK C H t m key v k) :
    ∃ H' w', (Instr.mapUpdate t (ren J m) (ren J key) (ren J v)).run C.P w = .ok () w' ∧ St C n J H' w' ∧ k H' := by
  obtain ⟨j, es, clock, ⟨kt, et⟩, rfl, hH, ht, hk, h⟩ := h
  have hj : j < n := und_map_new.1 hm
  have hu := mapT_some ht
  have hkr : ren J key = key := flatK_ren hk.flatK _
  have ho := hs.obj j hj
  rw [hH] at ho
  obtain ⟨hes, hw⟩ := ho
  have hst := hs.setMap hj hH (es' := updE key v es clock) (clock' := updC key es clock) (fun e he => by
    rcases mem_updE he with he | ⟨e1, e2⟩
    · exact hes e he
    · exact ⟨e1 ▸ hk.flatK, e2 ▸ hv⟩)
  refine ⟨_, _, ?_, hst, h⟩
  simp only [Instr.mapUpdate, Sem.run_bind, run_under hu, Result.andThen_ok, renV_map, dec_new, MapKept.run_getObj_map hw, hkr, hk.check, hk.find (ren J) w]
  cases hf : findE key es 0 with
  | none =>
    simp only [Option.map_none, MapKept.run_setObj_map _ hw, updE, updC, hf]
    simp [mapE]
  | some p =>
    obtain ⟨i, e⟩ := p
    obtain ⟨_, h2, h3⟩ := findE_some hf
    rw [Nat.sub_zero] at h2
    have h4 : ((es.map (mapE (ren J))).toArray)[i]? = some (mapE (ren J) e) := by simp [h2]
    simp only [Option.map_some, Sem.run_bind, h4, Option.getD_some, mapE_key, h3, run_stays hk.flatK, Result.andThen_ok, MapKept.run_setObj_map _ hw, updE, updC, hf]
    congr 4
    apply Array.ext
    · simp
    · intro a h5 h6
      have h7 : a < es.length := by simpa using h6
      simp only [Array.getElem_modify, List.getElem_toArray, List.getElem_map, List.getElem_set]
      by_cases hia : i = a
      · subst hia
        rw [List.getElem?_eq_getElem h7, Option.some.injEq] at h2
        simp [h2, mapE]
      · simp [hia]
theorem erase_map {α β : Type} (f : α → β) : ∀ (l : List α) (i : Nat), (l.map f).eraseIdx i = (l.eraseIdx i).map f
  | [], _ => rfl
  | _ :: _, 0 => rfl
  | x :: l, i + 1 => by simp [erase_map f l i]
/-- An entry of a map of the program's own is deleted. -/
def delK (C : Ctx) (H : Heap) (t : TypeId) (m key : Value) (k : Heap → Prop) : Prop :=
  ∃ j es clock q, m = .map (some (new j)) ∧ H j = .map es clock ∧ mapT C.P t = some q ∧ KeysOk C.P q.1 key es ∧ k (hset j (.map (delE key es) clock) H)
theorem delK_sound (hs : St C n J H w) {t : TypeId} {ts : Array TypeId} (hts : ts[0]? = some t) (ty : TypeId) {m key : Value} {k : Heap → Prop} (hm : Und n m) (h : delK C H t m key k) :
    ∃ H' w', (Builtin.delete_ ts ty #[ren J m, ren J key]).run C.P w = .ok (.tuple #[]) w' ∧ St C n J H' w' ∧ k H' := by
  obtain ⟨j, es, clock, ⟨kt, et⟩, rfl, hH, ht, hk, h⟩ := h
  have hj : j < n := und_map_new.1 hm
  have hu := mapT_some ht
  have hkr : ren J key = key := flatK_ren hk.flatK _
  have ho := hs.obj j hj
  rw [hH] at ho
  obtain ⟨hes, hw⟩ := ho
  have hst := hs.setMap hj hH (es' := delE key es) (clock' := clock) (fun e he => hes e (mem_delE he))
  refine ⟨_, _, ?_, hst, h⟩
  have e0 : (#[ren J (.map (some (new j))), ren J key] : Array Value)[0]? = some (.map (some (J j).1)) := by simp
  have e1 : (#[ren J (.map (some (new j))), ren J key] : Array Value)[1]? = some key := by simp [hkr]
  simp only [Builtin.delete_, hts, e0, e1, Sem.run_bind, run_under hu, Result.andThen_ok, MapKept.run_getObj_map hw, hk.check, hk.find (ren J) w]
  cases hf : findE key es 0 with
  | none =>
    simp only [Option.map_none, Sem.run_bind, MapKept.run_setObj_map _ hw, delE, hf, Result.andThen_ok, Sem.run_pure]
  | some p =>
    obtain ⟨i, e⟩ := p
    have e2 : ((es.map (mapE (ren J))).toArray).eraseIdxIfInBounds i = ((es.eraseIdx i).map (mapE (ren J))).toArray := by
      apply Array.ext'
      unfold Array.eraseIdxIfInBounds
      split
      · rw [Array.toList_eraseIdx, erase_map]
      · rename_i hi
        rw [List.eraseIdx_of_length_le (by simpa using hi)]
    simp only [Option.map_some, e2, Sem.run_bind, MapKept.run_setObj_map _ hw, delE, hf, Result.andThen_ok, Sem.run_pure]
/-- How many entries a map has. -/
def lenM (H : Heap) : Value → Option Int
  | .map (some r) => if r % 2 = 1 then match H (r / 2) with
    | .map es _ => some es.length
    | _ => none
    else none
  | _ => none
theorem lenM_sound (hs : St C n J H w) {t : TypeId} {ts : Array TypeId} (hts : ts[0]? = some t) (ty : TypeId) {q : TypeId × TypeId} (ht : mapT C.P t = some q) {v : Value} {r : List Value} {l : Int} (hv : Und n v) (h : lenM H v = some l) :
    (Builtin.len_ ts ty ((v :: r).map (ren J)).toArray).run C.P w = .ok (.int .i64 l) w := by
  unfold lenM at h
  split at h
  · rename_i b
    split at h
    · rename_i ho
      split at h
      · rename_i es clock hH
        obtain rfl := Option.some.inj h
        have hob := hs.obj _ (und_mapr.1 hv ho)
        rw [hH] at hob
        have hd : dec J b = J (b / 2) := by unfold dec; rw [if_neg (by omega)]
        have e0 : (((Value.map (some b) :: r).map (ren J)).toArray)[0]? = some (.map (some (J (b / 2)).1)) := by simp [hd]
        obtain ⟨kt, et⟩ := q
        simp only [Builtin.len_, hts, e0, Sem.run_bind, run_under (mapT_some ht), Result.andThen_ok, MapKept.run_getObj_map hob.2, Sem.run_pure, goInt]
        simp
      · cases h
    · cases h
  · cases h
/-- A map is made. -/
theorem St.newMap (hs : St C n J H w) : St C (n + 1) (jset n (w.heap.size, 0) J) (hset n (.map [] 0) H) (w.alloc (.map #[] 0)) :=
  hs.allocO ⟨by simp, by rw [heap_new]; simp⟩
/-! ### Ranging over a map -/
def rangeK (C : Ctx) (H : Heap) (t : TypeId) (x : Value) (k : AObj → Prop) : Prop :=
  optK (mapT C.P t) fun _ => x = .map none ∧ k (.iter none 0 [] 0) ∨ ∃ j es clock, x = .map (some (new j)) ∧ H j = .map es clock ∧ k (.iter (some j) clock [] clock)
theorem rangeK_sound (hs : St C n J H w) {t : TypeId} {x : Value} {k : AObj → Prop} (hx : Und n x) (h : rangeK C H t x k) :
    ∃ o O, (Instr.range t (ren J x)).run C.P w = .ok (.pointer (some ⟨w.heap.size, 0, none⟩)) (w.alloc O) ∧ St C (n + 1) (jset n (w.heap.size, 0) J) (hset n o H) (w.alloc O) ∧ k o := by
  obtain ⟨⟨kt, et⟩, ht, h⟩ := optK_ex h
  have hu := mapT_some ht
  rcases h with ⟨rfl, hk⟩ | ⟨j, es, clock, rfl, hH, hk⟩
  · refine ⟨.iter none 0 [] 0, .mapIter none 0 #[] 0, ?_, hs.allocO ⟨fun k hq => (by cases hq), (by rw [heap_new]; rfl)⟩, hk⟩
    simp [Instr.range, run_under hu]
  · have hj : j < n := und_map_new.1 hx
    have ho := hs.obj j hj
    rw [hH] at ho
    refine ⟨.iter (some j) clock [] clock, .mapIter (some (J j).1) clock #[] clock, ?_, hs.allocO ⟨fun k hq => (by obtain rfl := Option.some.inj hq; omega), (by rw [heap_new]; simp [jset_ne (Nat.ne_of_lt hj)])⟩, hk⟩
    simp [Instr.range, run_under hu, MapKept.run_getObj_map ho.2]
/-- The next entry, any one that has not been met. -/
def nextK (H : Heap) (it : Value) (k : Value → Heap → Prop) : Prop :=
  ∃ j m since seen last, it = .pointer (some ⟨new j, 0, none⟩) ∧ H j = .iter m since seen last ∧
    match m with
    | none => k (.tuple #[.bool false]) H
    | some q => ∃ es clock, H q = .map es clock ∧ ¬ (seen ≠ [] ∧ es ≠ [] ∧ ∀ e ∈ es, last ≤ e.born) ∧
      ((∀ e ∈ es, e.born ∉ seen → ¬ e.born < since) → k (.tuple #[.bool false]) H) ∧
      ∀ e ∈ es, e.born ∉ seen → k (.tuple #[.bool true, e.key, e.val]) (hset j (.iter m since (seen ++ [e.born]) clock) H)
theorem getObj_iter {P : Program} {r : Nat} {m : Option Nat} {since last : Nat} {seen : Array Nat} (h : w.heap[r]? = some (.mapIter m since seen last)) : (getObj r).run P w = .ok (.mapIter m since seen last) w := by
  simp [getObj, Sem.run, h]
theorem setObj_iter {P : Program} {r : Nat} {m : Option Nat} {since last : Nat} {seen : Array Nat} (o : Obj) (h : w.heap[r]? = some (.mapIter m since seen last)) : (setObj r o).run P w = .ok () { w with heap := w.heap.setIfInBounds r o } := by
  simp [setObj, Sem.run, h]
theorem run_choose_lt {P : Program} (m : Nat) (hm : 0 < m) : ∃ i b, i < m ∧ (choose (.mapNext m)).run P w = .ok i { w with drawn := w.drawn + b } := by
  unfold choose Sem.run
  by_cases h : (Question.mapNext m).forced = true
  · exact ⟨0, 0, hm, by simp [h, Sem.run]⟩
  · refine ⟨(Question.mapNext m).cut (w.tape w.drawn (.mapNext m)), 1, ?_, by simp [h, Sem.run]⟩
    exact Nat.mod_lt _ hm
theorem St.drewN (hs : St C n J H w) : ∀ b, St C n J H { w with drawn := w.drawn + b }
  | 0 => hs
  | b + 1 => (St.drewN hs b).drew
/-- What may come next. -/
def cands (A : Array MapEntry) (seen : Array Nat) (since : Nat) : Array (Option MapEntry) :=
  let left := A.filter fun e => !seen.contains e.born
  let old := left.filter (·.born < since)
  let new := left.filter (·.born ≥ since)
  (if old.isEmpty then #[none] else #[]) ++ (old ++ new).map some
theorem cands_mem {J : Nat → Nat × Nat} {es : List MapEntry} {seen : List Nat} {since : Nat} (i : Nat) (hi : i < (cands (es.map (mapE (ren J))).toArray seen.toArray since).size) :
    ∃ c, (cands (es.map (mapE (ren J))).toArray seen.toArray since)[i]? = some c ∧ (c = none ∧ (∀ e ∈ es, e.born ∉ seen → ¬ e.born < since) ∨ ∃ e ∈ es, e.born ∉ seen ∧ c = some (mapE (ren J) e)) := by
  refine ⟨_, Array.getElem?_eq_getElem hi, ?_⟩
  have hmem := Array.getElem_mem hi
  generalize (cands (es.map (mapE (ren J))).toArray seen.toArray since)[i] = c at hmem
  unfold cands at hmem
  simp only at hmem
  rcases Array.mem_append.1 hmem with hm | hm
  · split at hm
    · rename_i hem
      left
      refine ⟨by simpa using hm, fun e he hb hlt => ?_⟩
      have : mapE (ren J) e ∈ (((es.map (mapE (ren J))).toArray.filter fun (e : MapEntry) => !seen.toArray.contains e.born).filter (fun (e : MapEntry) => decide (e.born < since))) := by
        simp only [Array.mem_filter, List.mem_toArray, List.mem_map]
        refine ⟨⟨⟨e, he, rfl⟩, ?_⟩, decide_eq_true hlt⟩
        simpa using hb
      rw [Array.isEmpty_iff.1 hem] at this
      simp at this
    · simp at hm
  · right
    simp only [Array.mem_map, Array.mem_append, Array.mem_filter, List.mem_toArray, List.mem_map] at hm
    obtain ⟨x, hx, rfl⟩ := hm
    rcases hx with ⟨⟨⟨e, he, rfl⟩, hb⟩, _⟩ | ⟨⟨⟨e, he, rfl⟩, hb⟩, _⟩ <;> exact ⟨e, he, by simpa using hb, rfl⟩
theorem cands_pos {J : Nat → Nat × Nat} {es : List MapEntry} {seen : List Nat} {since : Nat} : 0 < (cands (es.map (mapE (ren J))).toArray seen.toArray since).size := by
  unfold cands
  simp only
  split
  · rw [Array.size_append]; simp; omega
  · rename_i hne
    have : (((es.map (mapE (ren J))).toArray.filter fun (e : MapEntry) => !seen.toArray.contains e.born).filter (fun (e : MapEntry) => decide (e.born < since))).size ≠ 0 := fun h => hne (Array.isEmpty_iff_size_eq_zero.2 h)
    rw [Array.size_append, Array.size_map, Array.size_append]
    omega
theorem nextK_sound (hs : St C n J H w) {it : Value} {ty : TypeId} {k : Value → Heap → Prop} (hit : Und n it) (h : nextK H it k) :
    ∃ v H' w', (Instr.next (ren J it) false ty).run C.P w = .ok (ren J v) w' ∧ St C n J H' w' ∧ Und n v ∧ k v H' := by
  obtain ⟨j, m, since, seen, last, rfl, hH, h⟩ := h
  have hj : j < n := und_ptr_new.1 hit
  have ho := hs.obj j hj
  rw [hH] at ho
  obtain ⟨hmn, hw⟩ := ho
  have e0 : ren J (.pointer (some ⟨new j, 0, none⟩)) = .pointer (some ⟨(J j).1, 0, none⟩) := by simp
  cases m with
  | none =>
    refine ⟨_, H, w, ?_, hs, und_tuple (by simp), h⟩
    rw [e0]
    simp [Instr.next, getObj_iter hw]
  | some q =>
    obtain ⟨es, clock, hq, hno, hend, hmore⟩ := h
    have hqn : q < n := hmn q rfl
    have hoq := hs.obj q hqn
    rw [hq] at hoq
    obtain ⟨hes, hwq⟩ := hoq
    have hguard : (!seen.toArray.isEmpty && !((es.map (mapE (ren J))).toArray).isEmpty && ((es.map (mapE (ren J))).toArray).all (fun e => decide (e.born ≥ last))) = false := by
      rw [Bool.eq_false_iff]
      intro hc
      apply hno
      simp only [Bool.and_eq_true, Bool.not_eq_true', List.isEmpty_toArray, List.isEmpty_eq_false_iff, ne_eq, List.map_eq_nil_iff] at hc
      obtain ⟨⟨h1, h2⟩, h3⟩ := hc
      refine ⟨h1, h2, fun e he => ?_⟩
      simp only [List.all_toArray, List.all_map, List.all_eq_true] at h3
      exact of_decide_eq_true (h3 e he)
    have hcand := cands_mem (J := J) (es := es) (seen := seen) (since := since)
    have hpos := cands_pos (J := J) (es := es) (seen := seen) (since := since)
    generalize hcs : cands (es.map (mapE (ren J))).toArray seen.toArray since = cs at hcand hpos
    unfold cands at hcs
    simp only at hcs
    obtain ⟨i, b, hi, hch⟩ := run_choose_lt (P := C.P) (w := w) cs.size hpos
    obtain ⟨c, hc, hcase⟩ := hcand i hi
    have hrun : (Instr.next (ren J (.pointer (some ⟨new j, 0, none⟩))) false ty).run C.P w = (match c with
        | some e => (do
          setObj (J j).1 (.mapIter (some (J q).1) since (seen.toArray.push e.born) clock)
          pure (.tuple #[.bool true, e.key, e.val]) : Sem Value)
        | none => pure (.tuple #[.bool false])).run C.P { w with drawn := w.drawn + b } := by
      rw [e0]
      simp only [Instr.next, Sem.run_bind, getObj_iter hw, Result.andThen_ok, Option.map_some, MapKept.run_getObj_map hwq, hguard, Bool.false_eq_true, if_false, Sem.run_pure]
      simp only [hcs, hch, Result.andThen_ok, hc]
      cases c <;> simp
    rcases hcase with ⟨rfl, hall⟩ | ⟨e, he, hb, rfl⟩
    · refine ⟨_, H, _, ?_, hs.drewN b, und_tuple (by simp), hend hall⟩
      rw [hrun]; simp
    · have hl : (H j).live := by rw [hH]; trivial
      have hs' := hs.drewN b
      have hst := hs'.setO hj hl (o := .iter (some q) since (seen ++ [e.born]) clock) (O := .mapIter (some (J q).1) since (seen.toArray.push e.born) clock) ⟨fun k hk => by obtain rfl := Option.some.inj hk; exact hqn, by
        have := hs.blk hj hl
        simp [this]⟩
      refine ⟨_, _, _, ?_, hst, und_tuple ?_, hmore e he hb⟩
      · rw [hrun]
        have hw' : ({ w with drawn := w.drawn + b } : World).heap[(J j).1]? = some (.mapIter (some (J q).1) since seen.toArray last) := by simpa using hw
        simp only [Sem.run_bind, setObj_iter _ hw', mapE_born, Result.andThen_ok, Sem.run_pure, mapE_key, mapE_val]
        simp [flatK_ren (hes e he).1]
      · have h1 := hes e he
        simp [und_flatK h1.1, h1.2]
end
/-- The entry that was met last. -/
def entryK (H : Heap) (it : Value) (k : Value → Prop) : Prop :=
  ∃ j q since seen last stamp es e, it = .pointer (some ⟨new j, 0, none⟩) ∧ H j = .iter (some q) since seen last ∧ seen.getLast? = some stamp ∧ H q = .map es last ∧ es.find? (fun e => e.born == stamp) = some e ∧ k (.tuple #[e.key, e.val])
theorem entryK_sound {C : Ctx} {n : Nat} {J : Nat → Nat × Nat} {H : Heap} {w : World} (hs : St C n J H w) {it : Value} {k : Value → Prop} (hit : Und n it) (h : entryK H it k) :
    ∃ v, (Instr.entry (ren J it)).run C.P w = .ok (ren J v) w ∧ Und n v ∧ k v := by
  obtain ⟨j, q, since, seen, last, stamp, es, e, rfl, hH, hl, hq, hf, hk⟩ := h
  have hj : j < n := und_ptr_new.1 hit
  have ho := hs.obj j hj
  rw [hH] at ho
  obtain ⟨hmn, hw⟩ := ho
  have hqn : q < n := hmn q rfl
  have hoq := hs.obj q hqn
  rw [hq] at hoq
  obtain ⟨hes, hwq⟩ := hoq
  have he := List.mem_of_find?_eq_some hf
  have e0 : ren J (.pointer (some ⟨new j, 0, none⟩)) = .pointer (some ⟨(J j).1, 0, none⟩) := by simp
  have hfm : ((es.map (mapE (ren J))).toArray.find? fun e => e.born == stamp) = some (mapE (ren J) e) := by
    rw [List.find?_toArray, List.find?_map]
    have : ((fun e : MapEntry => e.born == stamp) ∘ mapE (ren J)) = fun e => e.born == stamp := rfl
    rw [this, hf]; rfl
  have h1 := hes e he
  refine ⟨_, ?_, und_tuple (by simp [und_flatK h1.1, h1.2]), hk⟩
  rw [e0]
  simp only [Instr.entry, Sem.run_bind, getObj_iter hw, Result.andThen_ok, Option.map_some, List.back?_toArray, hl, MapKept.run_getObj_map hwq, bne_self_eq_false, Bool.false_eq_true, if_false, hfm, mapE_key, mapE_val, Sem.run_pure]
  simp [flatK_ren h1.1]
end Go.Aw
