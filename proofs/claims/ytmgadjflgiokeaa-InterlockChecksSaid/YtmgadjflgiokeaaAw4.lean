/-
  The abstract machine, part 4: the operations, continued.
-/
import Derived.Test.YtmgadjflgiokeaaAw3
namespace Go.Aw
open Go.RowKit

theorem run_eqGuard {P : Program} {op : BinOp} {t : TypeId} {xo yo : Operand} {x y : Value} (h1 : ∀ cs, x ≠ .agg cs) (h2 : x ≠ .nilIface) (w : World) :
    (eqGuard op t xo yo x y).run P w = .ok () w := by
  cases x <;> first | exact absurd rfl (h1 _) | exact absurd rfl h2 | (cases op <;> simp [eqGuard])
theorem ren_ne_nilIface {J : Nat → Nat × Nat} {x : Value} (h : x ≠ .nilIface) : ren J x ≠ .nilIface := by
  cases x with
  | pointer a => cases a <;> simp
  | slice a l c => cases a <;> simp
  | map r => cases r <;> simp
  | chan r => cases r <;> simp
  | nilIface => exact absurd rfl h
  | _ => simp
theorem ren_flat_list {J : Nat → Nat × Nat} {xs : Array Value} (h : ∀ v ∈ xs.toList, flat v = true) : ren J (.agg xs) = .agg xs := by
  rw [ren, renV_agg, map_congr_mem (fun v hv => flat_ren (h v (by simpa using hv)) _)]
  simp
theorem run_equal {P : Program} {t : TypeId} {x y : Value} {b : Bool} (h : eqA P t x y = some b) (J : Nat → Nat × Nat) (w : World) :
    (Op.equal t (ren J x) (ren J y)).run P w = .ok b w := run_eqIn h J 9999 w
/-- The values of which eqA speaks. -/
theorem eqA_shape {P : Program} {t : TypeId} {x y : Value} {b : Bool} (h : eqA P t x y = some b) (J : Nat → Nat × Nat) :
    (∀ cs, ren J x ≠ .agg cs) ∧ ren J x ≠ .nilIface ∧ ∀ w, (binOp .eql t (ren J x) (ren J y)).run P w = .ok (.bool b) w ∧ (binOp .neq t (ren J x) (ren J y)).run P w = .ok (.bool !b) w := by
  have hr := run_equal h J
  revert hr
  unfold eqA at h
  split at h <;> (first | cases h | skip) <;> intro hr
  case h_2 => rename_i c ht; cases c <;> (refine ⟨by simp, by simp, fun w => ?_⟩; have := hr w; simp only [renV_ptr_none, renV_ptr] at this; simp [binOp, this])
  case h_4 => rename_i c _ _ ht; cases c <;> (refine ⟨by simp, by simp, fun w => ?_⟩; have := hr w; simp only [renV_slice_none, renV_slice] at this; simp [binOp, this])
  case h_6 => rename_i c ht; cases c <;> (refine ⟨by simp, by simp, fun w => ?_⟩; have := hr w; simp only [renV_map_none, renV_map] at this; simp [binOp, this])
  all_goals
    refine ⟨by simp, by simp, fun w => ?_⟩
    have := hr w
    simp only [renV_bool, renV_ptr_none, renV_ptr, renV_slice_none, renV_slice, renV_map_none, renV_map, renV_nilFunc, renV_func] at this
    simp [binOp, this]
theorem binK_run {P : Program} {op : BinOp} {t : TypeId} {x y : Value} {k : Value → Prop} (h : binK P op t x y k) (J : Nat → Nat × Nat) (xo yo : Operand) :
    ∃ v, (∀ w, (do eqGuard op t xo yo (ren J x) (ren J y); binOp op t (ren J x) (ren J y) : Sem Value).run P w = .ok v w) ∧ (∀ n, Und n v ∧ ∀ g, renV g v = v) ∧ k v := by
  unfold binK at h
  split at h
  · exact h.elim
  · exact h.elim
  · obtain ⟨rfl, h⟩ := h
    obtain ⟨v, hv, hk⟩ := optK_ex h
    exact ⟨v, fun w => by simp [run_eqGuard, (run_intA (P := P) (t := t) hv w).1], (run_intA (P := P) (t := t) hv default).2, hk⟩
  · obtain ⟨v, hv, hk⟩ := optK_ex h
    exact ⟨v, fun w => by simp [run_eqGuard, (run_strA (P := P) (t := t) hv w).1], (run_strA (P := P) (t := t) hv default).2, hk⟩
  · obtain ⟨b, ⟨f1, f2, hg, hr⟩, hk⟩ := h
    refine ⟨.bool b, fun w => ?_, fun n => ⟨by simp, by simp⟩, hk⟩
    rw [ren_flat_list f1, ren_flat_list f2]
    have := hr w
    simp only [Array.toArray_toList] at this
    simp [eqGuard, hg, binOp, this]
  · obtain ⟨b, ⟨f1, f2, hg, hr⟩, hk⟩ := h
    refine ⟨.bool !b, fun w => ?_, fun n => ⟨by simp, by simp⟩, hk⟩
    rw [ren_flat_list f1, ren_flat_list f2]
    have := hr w
    simp only [Array.toArray_toList] at this
    simp [eqGuard, hg, binOp, this]
  · obtain ⟨b, hb, hk⟩ := optK_ex h
    obtain ⟨h1, h2, h3⟩ := eqA_shape hb J
    exact ⟨.bool b, fun w => by simp [run_eqGuard h1 h2, (h3 w).1], fun n => ⟨by simp, by simp⟩, hk⟩
  · obtain ⟨b, hb, hk⟩ := optK_ex h
    obtain ⟨h1, h2, h3⟩ := eqA_shape hb J
    exact ⟨.bool !b, fun w => by simp [run_eqGuard h1 h2, (h3 w).2], fun n => ⟨by simp, by simp⟩, hk⟩
  · exact h.elim

/-! ### Cells that are written one behind the other -/
def setN : List Value → Nat → List Value → List Value
  | cs, _, [] => cs
  | cs, i, v :: r => setN (cs.set i v) (i + 1) r
theorem setN_length : ∀ (l cs : List Value) (i : Nat), (setN cs i l).length = cs.length
  | [], _, _ => rfl
  | v :: r, cs, i => by simp [setN, setN_length r]
theorem mem_setN : ∀ (l cs : List Value) (i : Nat) {v : Value}, v ∈ setN cs i l → v ∈ cs ∨ v ∈ l
  | [], _, _, _, h => .inl h
  | u :: r, cs, i, v, h => by
    rcases mem_setN r _ _ h with h | h
    · rcases List.mem_or_eq_of_mem_set h with h | h
      · exact .inl h
      · exact .inr (by simp [h])
    · exact .inr (by simp [h])
theorem setN_map (f : Value → Value) : ∀ (l cs : List Value) (i : Nat), (setN cs i l).map f = setN (cs.map f) i (l.map f)
  | [], _, _ => rfl
  | v :: r, cs, i => by simp [setN, setN_map f r, List.map_set]
theorem St.storeN {C : Ctx} {n : Nat} {J : Nat → Nat × Nat} {i : Nat} {T sz : Nat} (hi : i < n) :
    ∀ (l : List Value) (cs : List Value) (H : Heap) (w : World) (b : Addr) (j : Nat), St C n J H w → H i = .cells cs T sz → renA J b = ⟨(J i).1, b.off, none⟩ → b.off + j + l.length ≤ cs.length →
      (∀ v ∈ l, Und n v ∧ v.oneCell' = true) →
      ∃ w', (storeCells (renA J b) (l.map (ren J)) j).run C.P w = .ok () w' ∧ St C n J (hset i (.cells (setN cs (b.off + j) l) T sz) H) w'
  | [], cs, H, w, b, j, hs, hH, _, _, _ => ⟨w, rfl, by
      simp only [setN]
      have : hset i (.cells cs T sz) H = H := by
        funext x; by_cases h : x = i
        · subst h; simp [hH]
        · rw [hset_ne h]
      rw [this]; exact hs⟩
  | v :: r, cs, H, w, b, j, hs, hH, hb, hl, hu => by
    have hk : b.off + j < cs.length := by simp at hl; omega
    obtain ⟨hv, h1⟩ := hu v (by simp)
    have hs1 := hs.store hi hH hk hv
    obtain ⟨w', hr, hs'⟩ := St.storeN (T := T) (sz := sz) hi r (cs.set (b.off + j) v) (hset i (.cells (cs.set (b.off + j) v) T sz) H) _ b (j + 1) hs1 (by simp) hb (by simp at hl ⊢; omega) (fun u hu' => hu u (by simp [hu']))
    have ha : (renA J b).add j = ⟨(J i).1, b.off + j, none⟩ := by
      rw [hb]; unfold Addr.add; split <;> simp_all
    have hcell : ∃ u, w.cell? ⟨(J i).1, b.off + j, none⟩ = some u := by
      have ho := hs.obj i hi
      rw [hH] at ho
      obtain ⟨_, tail, _, hc⟩ := ho
      unfold World.cell?
      simp only [hc]
      refine ⟨((cs.map (ren J) ++ tail).toArray)[b.off + j]'(by simp; omega), ?_⟩
      simp
    obtain ⟨u, hcell⟩ := hcell
    refine ⟨w', ?_, ?_⟩
    · simp only [List.map_cons, storeCells, Sem.run_bind, ha]
      have hone : (ren J v).oneCell' = true := by
        rw [← h1]
        cases v with
        | pointer a => cases a <;> simp [Value.oneCell']
        | slice a l c => cases a <;> simp [Value.oneCell']
        | map r => cases r <;> simp [Value.oneCell']
        | chan r => cases r <;> simp [Value.oneCell']
        | _ => simp [Value.oneCell']
      rw [run_store _ _ _ _ _ hone, hcell]
      simp only [hs.free hi hH, Bool.false_eq_true, if_false, Result.andThen_ok]
      exact hr
    · have : hset i (.cells (setN (cs.set (b.off + j) v) (b.off + (j + 1)) r) T sz) (hset i (.cells (cs.set (b.off + j) v) T sz) H) = hset i (.cells (setN cs (b.off + j) (v :: r)) T sz) H := by
        funext x; by_cases h : x = i
        · subst h; simp [setN, Nat.add_assoc]
        · simp [hset_ne h]
      rw [this] at hs'
      exact hs'

def oneAll (l : List Value) : Bool := l.all Value.oneCell'
def storeA (C : Ctx) (H : Heap) (t : TypeId) (a : Addr) (v : Value) : Option Heap :=
  match shp C.P t with
  | some (_, s) =>
    if a.spot.isNone && a.block % 2 == 1 && v.cells.size == s && oneAll v.cells.toList then
      match H (a.block / 2) with
      | .cells cs T sz => if a.off + s ≤ cs.length then some (hset (a.block / 2) (.cells (setN cs a.off v.cells.toList) T sz) H) else none
      | _ => none
    else none
  | none => none
theorem storeA_sound {C : Ctx} {n : Nat} {J : Nat → Nat × Nat} {H H' : Heap} {w : World} (hs : St C n J H w) {t : TypeId} {a : Addr} {v : Value} (ha : UndA n a) (hv : Und n v)
    (h : storeA C H t a v = some H') : ∃ w', (storeVar t (renA J a) (ren J v)).run C.P w = .ok () w' ∧ St C n J H' w' := by
  unfold storeA at h
  split at h
  · rename_i b s he
    obtain ⟨d, i, hd, hi, hb, rfl⟩ := shp_some he
    split at h
    · rename_i hc
      simp only [Bool.and_eq_true, Option.isNone_iff_eq_none, beq_iff_eq] at hc
      obtain ⟨⟨⟨hsp, hod⟩, hsz⟩, hone⟩ := hc
      split at h
      · rename_i cs T sz hH
        split at h
        · rename_i hl
          obtain rfl := Option.some.inj h
          have hlt := ha hod
          have hren : renA J a = ⟨(J (a.block / 2)).1, a.off, none⟩ := by
            unfold renA dec; rw [if_neg (by omega), hsp]
          obtain ⟨w', hr, hs'⟩ := St.storeN (C := C) (n := n) (J := J) (T := T) (sz := sz) hlt v.cells.toList cs H w a 0 hs hH hren (by simpa [hsz] using hl)
            (fun u hu => ⟨und_cells hv u (by simpa using hu), by
              have := List.all_eq_true.1 hone u hu; exact this⟩)
          refine ⟨w', ?_, by simpa using hs'⟩
          simp only [storeVar, Sem.run_bind, run_sizeOf hi, Result.andThen_ok, renV_cells]
          have e1 : (Array.map (renV (dec J)) v.cells).size = i.size := by simpa using hsz
          rw [if_neg (by simpa using e1)]
          simpa using hr
        · cases h
      · cases h
    · cases h
  · cases h
end Go.Aw
