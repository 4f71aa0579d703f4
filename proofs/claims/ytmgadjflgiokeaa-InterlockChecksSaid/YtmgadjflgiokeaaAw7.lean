/-
  The abstract machine, part 7: the operations are sound.
-/
import Derived.Test.YtmgadjflgiokeaaAw6
set_option linter.unusedSimpArgs false
set_option linter.unusedVariables false
namespace Go.Aw
open Go.RowKit

theorem reps_length (z : List Value) : ∀ n, (reps n z).length = n * z.length
  | 0 => by simp [reps]
  | n + 1 => by simp [reps, reps_length z n, Nat.add_mul, Nat.add_comm]
theorem mem_reps {z : List Value} {v : Value} : ∀ n, v ∈ reps n z → v ∈ z
  | 0, h => by simp [reps] at h
  | n + 1, h => by
    rcases List.mem_append.1 h with h | h
    · exact h
    · exact mem_reps n h
theorem reps_get (z : List Value) (hz : 0 < z.length) : ∀ (n j : Nat), j < n * z.length → (reps n z)[j]? = z[j % z.length]?
  | 0, j, h => by simp at h
  | n + 1, j, h => by
    simp only [reps]
    by_cases hj : j < z.length
    · rw [List.getElem?_append_left hj, Nat.mod_eq_of_lt hj]
    · rw [List.getElem?_append_right (by omega), reps_get z hz n _ (by rw [Nat.add_mul] at h; omega)]
      congr 1
      have : j = (j - z.length) + z.length := by omega
      conv => rhs; rw [this]
      rw [Nat.add_mod_right]
theorem reps_made (n : Nat) (z : Array Value) (hz : 0 < z.size) : ((Array.range (n * z.size)).map (fun x => z[x % z.size]!)) = (reps n z.toList).toArray := by
  apply Array.ext'
  apply List.ext_getElem?
  intro j
  have hl : z.toList.length = z.size := by simp
  by_cases hj : j < n * z.size
  · rw [List.getElem?_toArray.symm]
    have h1 := reps_get z.toList (by simpa using hz) n j (by simpa using hj)
    rw [hl] at h1
    have h2 : j % z.size < z.size := Nat.mod_lt _ hz
    simp [hj, h1, h2]
  · rw [List.getElem?_eq_none (by simpa using hj), List.getElem?_eq_none (by rw [List.toList_toArray, reps_length]; simpa using hj)]

section
variable {X : Cx} {o : Oper} {a : Act} {w : World} {n : Nat} {J : Nat → Nat × Nat} {H : Heap} {fr : Fr} {k : Value → Nat → Heap → Prop}

theorem ren_flats {J : Nat → Nat × Nat} {l : List Value} (h : ∀ c ∈ l, flat c = true) : l.map (ren J) = l := by
  conv => rhs; rw [← List.map_id l]
  exact List.map_congr_left fun c hc => flat_ren (h c hc) _
theorem und_flats {n : Nat} {l : List Value} (h : ∀ c ∈ l, flat c = true) : ∀ c ∈ l, Und n c := fun c hc J J' _ => by rw [ren, ren, flat_ren (h c hc), flat_ren (h c hc)]

theorem ok_alloc (hs : St X.C n J H w) {cs : List Value} {T sz : Nat} (hu : ∀ v ∈ cs, Und n v)
    (hr : (execOp a.eval o).run X.C.P w = .ok (.value (.pointer (some ⟨w.heap.size, 0, none⟩))) (w.alloc (.cells (cs.map (ren J)).toArray T)))
    (hk : k (.pointer (some ⟨new n, 0, none⟩)) (n + 1) (hset n (.cells cs T sz) H)) : OpOk X o a w n J k := by
  have hst := hs.alloc (T := T) (sz := sz) hu (ex := 0) (tail := []) (by simp)
  rw [List.append_nil] at hst
  refine OpOk.run (J' := jset n (w.heap.size, 0) J) (v := .pointer (some ⟨new n, 0, none⟩)) ?_ hst (by omega) (fun j hj => by rw [jset_ne (by omega)]) (by simp) hk
  rw [hr]; simp

theorem ok_row (hs : St X.C n J H w) {cs : List Value} {T sz l : Nat} (hu : ∀ v ∈ cs, Und n v)
    (hr : (execOp a.eval o).run X.C.P w = .ok (.value (.slice (some ⟨w.heap.size, 0, none⟩) l l)) (w.alloc (.cells (cs.map (ren J)).toArray T)))
    (hk : k (.slice (some ⟨new n, 0, none⟩) l l) (n + 1) (hset n (.cells cs T sz) H)) : OpOk X o a w n J k := by
  have hst := hs.alloc (T := T) (sz := sz) hu (ex := 0) (tail := []) (by simp)
  rw [List.append_nil] at hst
  refine OpOk.run (J' := jset n (w.heap.size, 0) J) (v := .slice (some ⟨new n, 0, none⟩) l l) ?_ hst (by omega) (fun j hj => by rw [jset_ne (by omega)]) (by simp) hk
  rw [hr]; simp

theorem run_fieldAt {P : Program} {s f off : Nat} (h : fld P s f = some off) (b : Addr) (w : World) : (Instr.fieldAt s (.pointer (some b)) f).run P w = .ok (.pointer (some (b.add off))) w := by
  unfold fld at h
  split at h
  · rename_i fs hd
    split at h
    · rename_i x hx
      split at h
      · rename_i i hi
        split at h
        · cases h
        · rename_i hz
          obtain rfl := Option.some.inj h
          simp [Instr.fieldAt, run_under hd, hx, Instr.sureAddr, fieldPlace, run_sizeOf hi, hz]
      · cases h
    · cases h
  · cases h
theorem run_indexAt_slice {P : Program} {t e : TypeId} {i : TypeInfo} (ht : P.underlying t = some (.slice e)) (hi : P.info? e = some i) {b : Addr} {l c : Nat} {q : IntKind} {j : Int} (h0 : 0 ≤ j) (h1 : j < l) (w : World) :
    (Instr.indexAt t (.slice (some b) l c) (.int q j)).run P w = .ok (.pointer (some (b.add (j.toNat * i.size)))) w := by
  simp [Instr.indexAt, asIntOf, run_under ht, h0, h1, run_sizeOf hi]
theorem run_indexAt_array {P : Program} {t e m : TypeId} {i : TypeInfo} (ht : P.underlying t = some (.array m e)) (hi : P.info? e = some i) {b : Addr} {q : IntKind} {j : Int} (h0 : 0 ≤ j) (h1 : j < m) (w : World) :
    (Instr.indexAt t (.pointer (some b)) (.int q j)).run P w = .ok (.pointer (some (b.add (j.toNat * i.size)))) w := by
  simp [Instr.indexAt, asIntOf, run_under ht, h0, h1, run_sizeOf hi, Instr.sureAddr]
theorem elemR_some {P : Program} {t m sz : Nat} (h : elemR P t = some (m, sz)) : ∃ e i, P.underlying t = some (.array m e) ∧ P.info? e = some i ∧ i.size = sz := by
  unfold elemR at h
  split at h
  · rename_i hu
    split at h
    · rename_i i hi
      simp only [Option.some.injEq, Prod.mk.injEq] at h
      obtain ⟨rfl, h1⟩ := h
      exact ⟨_, i, hu, hi, h1⟩
    · cases h
  · cases h
theorem partA_run {P : Program} {t : TypeId} {cs : List Value} {off : Nat} {v : Value} (h : partA P t cs off = some v) (hu : ∀ c ∈ cs, Und n c) (w : World) :
    (part t (cs.map (ren J)).toArray off).run P w = .ok (ren J v) w ∧ Und n v := by
  unfold partA at h
  split at h
  · rename_i s he
    obtain ⟨d, i, hd, hi, hb, rfl⟩ := shp_some he
    obtain rfl := Option.some.inj h
    refine ⟨?_, und_agg fun c hc => hu c (by
      have : c ∈ (cs.drop off).take i.size := by simpa using hc
      exact List.mem_of_mem_drop (List.mem_of_mem_take this))⟩
    simp [part, run_isAgg hd, hb, run_sizeOf hi]
  · rename_i s he
    obtain ⟨d, i, hd, hi, hb, rfl⟩ := shp_some he
    refine ⟨?_, hu v (List.mem_of_getElem? h)⟩
    simp [part, run_isAgg hd, hb, h]
  · cases h
theorem entB_run {P : Program} {f : FuncId} (h : entB P f = true) (args : Array Value) (w : World) : (callFunc f args).run P w = .ok (.enter f args) w := by
  unfold entB at h
  split at h
  · rename_i fn hf
    simp only [Bool.and_eq_true, Bool.not_eq_true'] at h
    obtain ⟨h1, h2⟩ := h
    have h3 : fn.body.isNone = false := by cases hb : fn.body <;> simp_all
    simp only [callFunc, Sem.run_bind, run_program, Result.andThen_ok, hf, h1, h3, Bool.false_eq_true, if_false, Sem.run_pure]
  · cases h
theorem ok_call (hs : St X.C n J H w) {f : FuncId} {vs : List Value} (hu : ∀ v ∈ vs, Und n v) (hr : (execOp a.eval o).run X.C.P w = .ok (.enter f (vs.map (ren J)).toArray) w) (h : ACall X.C f vs k n H) : OpOk X o a w n J k := by
  intro next Q hn
  unfold Oper.wp
  rw [hr]
  refine (h J w hs hu).mono ?_
  rintro e w' ⟨n', J', r, H', rfl, h1, h2, h3, h4, h5⟩
  exact hn n' J' H' w' r h1 h2 h3 h4 h5

theorem ixA_run {P : Program} (J : Nat → Nat × Nat) {t : TypeId} {x : Value} {q : IntKind} {i : Int} {K : Value → Prop} (hx : Und n x) (h : ixA P t x i K) :
    ∃ v, (∀ w, (Instr.indexAt t (ren J x) (.int q i)).run P w = .ok (ren J v) w) ∧ Und n v ∧ K v := by
  unfold ixA at h
  split at h
  · replace h := optK_ex h
    obtain ⟨⟨e, sz, b⟩, he, h⟩ := h
    obtain ⟨j, ht, hj, rfl, rfl⟩ := elemS_some he
    replace h := optK_ex h
    obtain ⟨⟨A, l, c⟩, hA, h⟩ := h
    obtain ⟨⟨h0, h1, h2⟩, hk⟩ := h
    have hx' : x = .slice A l c := by
      cases x <;> simp_all [asS]
    subst hx'
    cases A with
    | none => simp at h2
    | some A =>
      have hA := slice_undA hx A rfl
      refine ⟨_, fun w => ?_, und_ptr.2 (UndA.add hA _), hk⟩
      rw [ren_slice_map]
      simp only [Option.map_some]
      rw [run_indexAt_slice ht hj h0 h1, ren_ptr, renA_add]
  · replace h := optK_ex h
    obtain ⟨⟨m, sz⟩, he, h⟩ := h
    obtain ⟨e, j, ht, hj, rfl⟩ := elemR_some he
    replace h := optK_ex h
    obtain ⟨b, hb, ⟨h0, h1⟩, hk⟩ := h
    obtain rfl := asA_some hb
    refine ⟨_, fun w => ?_, und_ptr.2 (UndA.add (und_ptr.1 hx) _), hk⟩
    rw [ren_ptr, run_indexAt_array ht hj h0 h1, ren_ptr, renA_add]
  · exact h.elim

theorem idxA_run {P : Program} (J : Nat → Nat × Nat) {t : TypeId} {x : Value} {q : IntKind} {i : Int} {K : Value → Prop} (hx : Und n x) (h : idxA P t x i K) :
    ∃ v, (∀ w, (Instr.index t (ren J x) (.int q i)).run P w = .ok (ren J v) w) ∧ Und n v ∧ K v := by
  unfold idxA at h
  split at h
  · rename_i m e cs ht
    replace h := optK_ex h
    obtain ⟨⟨len, sz⟩, hel, ⟨h0, h1⟩, h⟩ := h
    obtain ⟨e', j, ht', hj, rfl⟩ := elemR_some hel
    rw [ht] at ht'
    obtain ⟨rfl, rfl⟩ : m = len ∧ e = e' := by simpa using ht'
    replace h := optK_ex h
    obtain ⟨v, hv, hk⟩ := h
    have hr := fun w => partA_run (J := J) hv (fun c hc => und_of_agg hx (by simpa using hc)) w
    refine ⟨v, fun w => ?_, (hr default).2, hk⟩
    have e3 : (cs.toList.map (ren J)).toArray = cs.map (ren J) := by apply Array.ext'; simp
    have hr2 := (hr w).1
    rw [e3] at hr2
    simp only at h0 h1
    simp [Instr.index, run_under ht, asIntOf, h0, h1, run_sizeOf hj, hr2]
  · rename_i s ht
    obtain ⟨⟨h0, h1⟩, hk⟩ := h
    refine ⟨_, fun w => ?_, by simp, hk⟩
    simp [Instr.index, run_under ht, asIntOf, h0, h1]
  · exact h.elim
theorem convA_run {P : Program} (J : Nat → Nat × Nat) {src dst : TypeId} {x v : Value} (h : convA P src dst x = some v) : (∀ w, (convert src dst (ren J x)).run P w = .ok (ren J v) w) ∧ ∀ n, Und n v := by
  unfold convA at h
  split at h
  · rename_i h1 h2
    obtain rfl := Option.some.inj h
    exact ⟨fun w => by simp [convert, run_under h1, run_under h2, Conv.intToInt], fun n => by simp⟩
  · rename_i h1 h2
    obtain rfl := Option.some.inj h
    exact ⟨fun w => by simp [convert, run_under h1, run_under h2], fun n => by simp⟩
  · cases h
theorem bndA_some {N : Nat} {lo : Option Operand} {b : Option (IntKind × Int)} (hf : FrOk N n J fr a) (h : bndA (ev fr) lo = some b) : lo.map a.eval = b.map fun p => Value.int p.1 p.2 := by
  cases lo with
  | none => simp [bndA] at h; subst h; rfl
  | some x =>
    simp only [bndA] at h
    obtain ⟨v, hv, h⟩ := Option.bind_eq_some_iff.1 h
    obtain ⟨⟨k, i⟩, hi, rfl⟩ := Option.map_eq_some_iff.1 h
    obtain rfl := asI_some hi
    have := (ev_sound hf hv).1
    simp only [renV_int] at this
    simp [this]
theorem run_bounds {P : Program} {b : Bool} {l c : Nat} {lo hi : Option (IntKind × Int)} (h0 : 0 ≤ lowI lo) (h1 : lowI lo ≤ highI hi l) (h2 : highI hi l ≤ c) (w : World) :
    (Instr.sliceBounds b l c (lo.map fun p => Value.int p.1 p.2) (hi.map fun p => Value.int p.1 p.2) none).run P w = .ok ((lowI lo).toNat, (highI hi l).toNat, c) w := by
  have e : ∀ (p : IntKind × Int) (y : Nat) (code : BoundsCode), 0 ≤ p.2 → p.2 ≤ y → (Instr.sliceBound (.int p.1 p.2) y code).run P w = .ok p.2.toNat w := fun p y code g0 g1 => by
    simp [Instr.sliceBound, asIntOf, g0, g1]
  cases hi with
  | none =>
    simp only [highI] at h1 h2 ⊢
    cases lo with
    | none => simp [Instr.sliceBounds, lowI]
    | some p => simp only [lowI] at h0 h1 ⊢; simp [Instr.sliceBounds, e p l _ h0 h1]
  | some q =>
    simp only [highI] at h1 h2 ⊢
    cases lo with
    | none => simp only [lowI] at h1 ⊢; simp [Instr.sliceBounds, e q c _ h1 h2]
    | some p => simp only [lowI] at h0 h1 ⊢; simp [Instr.sliceBounds, e q c _ (by omega) h2, e p q.2.toNat _ h0 (by omega)]
theorem sliceA_run {P : Program} (J : Nat → Nat × Nat) {t : TypeId} {x : Value} {lo hi : Option (IntKind × Int)} {K : Value → Prop} (hx : Und n x) (h : sliceA P t x lo hi K) :
    ∃ v, (∀ w, (Instr.slice t (ren J x) (lo.map fun p => Value.int p.1 p.2) (hi.map fun p => Value.int p.1 p.2) none).run P w = .ok (ren J v) w) ∧ Und n v ∧ K v := by
  unfold sliceA at h
  split at h
  · rename_i s htk
    obtain ⟨⟨h0, h1, h2⟩, hk⟩ := h
    refine ⟨_, fun w => ?_, by simp, hk⟩
    simp [Instr.slice, run_under (tk_string htk), run_bounds h0 h1 h2]
  · rename_i A l c htk
    replace h := optK_ex h
    obtain ⟨⟨e, sz, b⟩, he, ⟨h0, h1, h2⟩, h⟩ := h
    obtain ⟨j, ht, hj, rfl, rfl⟩ := elemS_some he
    simp only at h
    have hA := slice_undA hx
    have key : ∀ w, (Instr.slice t (ren J (.slice A l c)) (lo.map fun p => Value.int p.1 p.2) (hi.map fun p => Value.int p.1 p.2) none).run P w =
        .ok (.slice (if c + (A.elim 0 fun a => (dec J a.block).2) = (lowI lo).toNat then A.map (renA J) else (A.map (renA J)).map (·.add ((lowI lo).toNat * j.size))) ((highI hi l).toNat - (lowI lo).toNat) (c + (A.elim 0 fun a => (dec J a.block).2) - (lowI lo).toNat)) w := fun w => by
      rw [ren_slice_map]
      simp [Instr.slice, run_under ht, run_bounds h0 h1 (Int.le_trans h2 (by omega : (c : Int) ≤ ((c + (A.elim 0 fun a => (dec J a.block).2) : Nat) : Int))), run_sizeOf hj]
    have hmap : ∀ q, (A.map (renA J)).map (·.add q) = (A.map fun a => a.add q).map (renA J) := fun q => by
      cases A <;> simp [renA_add]
    have hel : ∀ q, ((A.map fun a => a.add q).elim 0 fun a => (dec J a.block).2) = (A.elim 0 fun a => (dec J a.block).2) := fun q => by
      cases A with
      | none => rfl
      | some a => simp only [Option.map_some, Option.elim]; unfold Addr.add; split <;> rfl
    have hund : ∀ q l' c', Und n (.slice (A.map fun a => a.add q) l' c') := fun q l' c' => by
      cases A with
      | none => simp
      | some a => exact und_slice.2 (UndA.add (hA a rfl) q)
    have hund0 : ∀ l' c', Und n (.slice A l' c') := fun l' c' => by
      cases A with
      | none => simp
      | some a => exact und_slice.2 (hA a rfl)
    split at h
    · rename_i hz
      refine ⟨_, fun w => ?_, hund0 _ _, h⟩
      rw [key, ren_slice_map, hz]
      have : (A.map (renA J)).map (·.add (Int.toNat 0 * j.size)) = A.map (renA J) := by
        cases A with
        | none => rfl
        | some a => simp [Addr.add]
      rw [this, ite_self]
      simp
    · split at h
      · rename_i hz hlt
        refine ⟨_, fun w => ?_, hund _ _ _, h⟩
        rw [key, ren_slice_map, if_neg (by omega), hmap, hel]
        congr 2; omega
      · rename_i hz hge
        have e1 : (lowI lo).toNat = c := by omega
        have e2 : (highI hi l).toNat = c := by omega
        by_cases hex : (A.elim 0 fun a => (dec J a.block).2) = 0
        · refine ⟨_, fun w => ?_, hund0 _ _, h.1⟩
          rw [key, ren_slice_map, hex, e1, e2]; simp
        · refine ⟨_, fun w => ?_, hund _ _ _, h.2⟩
          rw [key, ren_slice_map, if_neg (by omega), hmap, hel, e1, e2]
          congr 2 <;> omega
  · exact h.elim
theorem sliceAt_run {P : Program} {t : TypeId} {x x' : Value} {lo hi : Option (IntKind × Int)} {K : Value → Prop} (h : sliceA P t x' lo hi K) (l u : Option Value) (w : World) : (Instr.sliceAt t x l u none).run P w = (Instr.slice t x l u none).run P w := by
  have : ∃ d, P.underlying t = some d ∧ ∀ n e, d ≠ .array n e := by
    unfold sliceA at h
    split at h
    · rename_i htk; exact ⟨_, tk_string htk, by simp⟩
    · rename_i htk; obtain ⟨e, he⟩ := tk_slice htk; exact ⟨_, he, by simp⟩
    · exact h.elim
  obtain ⟨d, hd, hn⟩ := this
  cases d <;> first | exact absurd rfl (hn _ _) | simp only [Instr.sliceAt, Sem.run_bind, run_under hd, Result.andThen_ok]
theorem cutK_sound {C : Ctx} {w : World} (hs : St C n J H w) {t : TypeId} {x : Value} {lo hi : Option (IntKind × Int)} {mx : IntKind} {m : Int} {K : Value → Nat → Heap → Prop} (hx : Und n x) (h : cutK C H n t x lo hi (mx, m) K) :
    ∃ v n' J' H', (∀ u, (Instr.sliceAt t (ren J x) (lo.map fun p => Value.int p.1 p.2) (hi.map fun p => Value.int p.1 p.2) (some (.int mx m))).run C.P u = .ok (ren J' v) u) ∧ St C n' J' H' w ∧ n ≤ n' ∧ (∀ i, i < n → J' i = J i) ∧ Und n' v ∧ K v n' H' := by
  obtain ⟨A, l, c, ⟨e, sz, b⟩, rfl, htk, he, hlo, hhi, h0, h1, h2, h⟩ := h
  obtain ⟨j, ht, hj, rfl, rfl⟩ := elemS_some he
  simp only at h1 h2 h
  have hb : ∀ (p : IntKind × Int) (y : Nat) (code : BoundsCode) (u : World), 0 ≤ p.2 → p.2 ≤ y → (Instr.sliceBound (.int p.1 p.2) y code).run C.P u = .ok p.2.toNat u := fun p y code u g0 g1 => by
    simp [Instr.sliceBound, asIntOf, g0, g1]
  obtain ⟨q, rfl⟩ := Option.isSome_iff_exists.1 hhi
  simp only [highI] at h0 h1 h
  have hbnd : ∀ (c' : Nat) (u : World), c ≤ c' → (Instr.sliceBounds true l c' (lo.map fun p => Value.int p.1 p.2) ((some q).map fun p => Value.int p.1 p.2) (some (.int mx m))).run C.P u = .ok (0, q.2.toNat, m.toNat) u := fun c' u hc => by
    have g1 := hb (mx, m) c' .slice3Acap u (by simp only; omega) (by simp only; omega)
    have g2 := hb q m.toNat .slice3B u h0 (by omega)
    simp only at g1
    cases lo with
    | none => simp [Instr.sliceBounds, g1, g2]
    | some p =>
      simp only [lowI] at hlo
      have g3 := hb p q.2.toNat .slice3C u (by omega) (by omega)
      rw [hlo] at g3
      simp [Instr.sliceBounds, g1, g2, hlo, g3]
  have key : ∀ u, (Instr.sliceAt t (ren J (.slice A l c)) (lo.map fun p => Value.int p.1 p.2) ((some q).map fun p => Value.int p.1 p.2) (some (.int mx m))).run C.P u = .ok (.slice (A.map (renA J)) q.2.toNat m.toNat) u := fun u => by
    have hz : ∀ B : Option Addr, B.map (·.add (0 * j.size)) = B := fun B => by
      cases B with
      | none => rfl
      | some a => simp [Addr.add]
    rw [ren_slice_map]
    simp only [Instr.sliceAt, Sem.run_bind, run_under ht, Result.andThen_ok]
    simp only [Instr.slice, Sem.run_bind, run_under ht, Result.andThen_ok, hbnd (c + (A.elim 0 fun a => (dec J a.block).2)) u (by omega), run_sizeOf hj, Sem.run_pure, hz, ite_self, Nat.sub_zero]
  have hA := slice_undA hx
  cases A with
  | none => exact ⟨_, n, J, H, fun u => by rw [key u]; simp, hs, Nat.le_refl _, fun _ _ => rfl, by simp, h⟩
  | some a =>
    simp only at h
    split at h
    · rename_i hev
      refine ⟨_, n, J, H, fun u => ?_, hs, Nat.le_refl _, fun _ _ => rfl, und_slice.2 (hA a rfl), h⟩
      rw [key u, ren, renV_slice]
      have : (dec J a.block).2 = 0 := by unfold dec; rw [if_pos hev]
      rw [this]; rfl
    · rename_i hod
      have hlt := hA a rfl (by omega)
      have hd : dec J a.block = J (a.block / 2) := by unfold dec; rw [if_neg hod]
      refine ⟨_, n + 1, jset n ((J (a.block / 2)).1, 0) J, _, fun u => ?_, hs.name (hs.lo _ hlt), by omega, fun i hi => jset_ne (by omega) _ _, und_slice.2 (fun _ => by simp only [new]; omega), h⟩
      rw [key u, ren, renV_slice, dec_new, jset_same]
      simp only [Option.map_some, renA, hd, Nat.add_zero]
theorem lenH_case {C : Ctx} {t : TypeId} {v : Value} {l : Int} (h : lenH C H t v = some l) : lenA C.P t v = some l ∨ ∃ q, mapT C.P t = some q ∧ lenM H v = some l := by
  unfold lenH at h
  split at h
  · rename_i x hx; left; rw [hx, h]
  · split at h
    · rename_i q hq; right; exact ⟨q, hq, h⟩
    · cases h
theorem copyA_sound {C : Ctx} {w : World} (hs : St C n J H w) {t : TypeId} {ts : Array TypeId} (hts : ts[0]? = some t) (ty : TypeId) {d s : Value} {l : Int} {H' : Heap} (hd : Und n d) (hsr : Und n s) (h : copyA C H t d s = some (l, H')) :
    ∃ w', (Builtin.copy_ ts ty #[ren J d, ren J s]).run C.P w = .ok (.int .i64 l) w' ∧ St C n J H' w' := by
  unfold copyA at h
  split at h
  case h_2 => cases h
  rename_i A dl dc B sl sc
  split at h
  case h_2 => cases h
  rename_i e sz b he
  obtain ⟨i, ht, hi, rfl, rfl⟩ := elemS_some he
  have hmin : ∀ a b : Nat, Nat.min a b = min a b := fun _ _ => rfl
  split at h
  · rename_i h0
    split at h
    · rename_i h1
      obtain ⟨rfl, rfl⟩ : 0 = l ∧ H = H' := by simpa using h
      refine ⟨w, ?_, hs⟩
      have e0 : (#[ren J (.slice A dl dc), ren J (.slice B sl sc)] : Array Value)[0]? = some (ren J (.slice A dl dc)) := rfl
      have e1 : (#[ren J (.slice A dl dc), ren J (.slice B sl sc)] : Array Value)[1]? = some (ren J (.slice B sl sc)) := rfl
      cases A <;> cases B <;> simp [Builtin.copy_, hts, run_under ht, run_sizeOf hi, Builtin.lenOf, hmin, h1, Builtin.firstCells, loadCells, loadCellsFrom, storeCells, goInt]
    · cases h
  · rename_i h0
    split at h
    case h_2 => cases h
    rename_i cs a hcs
    split at h
    case h_2 => cases h
    rename_i H2 hH2
    obtain ⟨rfl, rfl⟩ : ((min sl dl : Nat) : Int) = l ∧ H2 = H' := by simpa using h
    obtain ⟨g1, g2, _⟩ := rowA_some hs (slice_undA hsr) hcs
    obtain ⟨w', hr, hs'⟩ := putA_sound hs (slice_undA hd a rfl) g2 hH2
    refine ⟨w', ?_, hs'⟩
    have e0 : (#[ren J (.slice (some a) dl dc), ren J (.slice B sl sc)] : Array Value)[0]? = some (ren J (.slice (some a) dl dc)) := rfl
    have e1 : (#[ren J (.slice (some a) dl dc), ren J (.slice B sl sc)] : Array Value)[1]? = some (ren J (.slice B sl sc)) := rfl
    cases B with
    | none =>
      simp only [rowA] at hcs
      split at hcs
      · rename_i h3; exact absurd h3 h0
      · cases hcs
    | some b =>
      simp only [rowA] at hcs
      have hld := (getN_sound hs (slice_undA hsr b rfl) _ 0 cs #[] hcs).2
      have e2 : ren J (.slice (some a) dl dc) = .slice (some (renA J a)) dl (dc + (dec J a.block).2) := by simp [renA]
      have e3 : ren J (.slice (some b) sl sc) = .slice (some (renA J b)) sl (sc + (dec J b.block).2) := by simp [renA]
      simp [Builtin.copy_, hts, e2, e3, run_under ht, run_sizeOf hi, Builtin.lenOf, hmin, Builtin.firstCells, loadCells, hld, hr, goInt]
set_option maxHeartbeats 2000000 in
theorem opA_sound (hs : St X.C n J H w) (hf : FrOk X.N n J fr a) (h : opA X.C (ev fr) o.op k n H) : OpOk X o a w n J k := by
  obtain ⟨dst, op, ty, pos, after, guard⟩ := o
  dsimp only at h
  unfold opA at h
  split at h
  · -- move
    replace h := optK_ex h
    obtain ⟨v, hv, hk⟩ := h
    obtain ⟨e, u⟩ := ev_sound hf hv
    exact OpOk.val hs (by simp [execOp, e]) u hk
  · -- assign
    replace h := optK_ex h
    obtain ⟨v, hv, hk⟩ := h
    obtain ⟨e, u⟩ := ev_sound hf hv
    exact OpOk.val hs (by simp [execOp, e]) u hk
  · -- pick
    replace h := optK_ex h
    obtain ⟨c, hc, h⟩ := h
    replace h := optK_ex h
    obtain ⟨b, hb, h⟩ := h
    replace h := optK_ex h
    obtain ⟨v1, hv1, h⟩ := h
    replace h := optK_ex h
    obtain ⟨v2, hv2, hk⟩ := h
    obtain rfl := asB_some hb
    obtain ⟨e0, _⟩ := ev_sound hf hc
    obtain ⟨e1, u1⟩ := ev_sound hf hv1
    obtain ⟨e2, u2⟩ := ev_sound hf hv2
    refine OpOk.val hs (v := if b then v1 else v2) ?_ (by cases b <;> simp [u1, u2]) hk
    simp [execOp, e0, e1, e2, asBool]
    cases b <;> simp
  · -- alloc
    replace h := optK_ex h
    obtain ⟨z, hz, hk⟩ := h
    obtain ⟨i, v, hi, hv, rfl, hfl⟩ := zeroA_some hz
    refine ok_alloc hs (und_flats hfl) ?_ hk
    simp only [execOp, Instr.alloc, Sem.run_bind, run_zero hi hv, Result.andThen_ok, newVar, newRow, run_newObj, Sem.run_pure, ren_flats hfl]
    rfl
  · -- box
    replace h := optK_ex h
    obtain ⟨v, hv, hk⟩ := h
    obtain ⟨e, u⟩ := ev_sound hf hv
    refine ok_alloc hs (fun c hc => und_cells u c (by simpa using hc)) ?_ hk
    have e3 : (v.cells.toList.map (ren J)).toArray = (ren J v).cells := by rw [ren, renV_cells]; apply Array.ext'; simp
    simp only [execOp, Instr.box, Sem.run_bind, Result.andThen_ok, newVar, newRow, run_newObj, Sem.run_pure, e, e3]
    rfl
  · -- build
    rename_i t parts
    replace h := optK_ex h
    obtain ⟨ps, hps, h⟩ := h
    replace h := optK_ex h
    obtain ⟨z, hz, h⟩ := h
    replace h := optK_ex h
    obtain ⟨pl, hpl, h⟩ := h
    replace h := optK_ex h
    obtain ⟨cs, hcs, hk⟩ := h
    obtain ⟨e, u⟩ := partsA_some hf _ _ hps
    obtain ⟨hr, hu⟩ := run_build (J := J) (n := n) hz hpl hcs u w
    refine OpOk.val hs (v := .agg cs.toArray) ?_ hu hk
    have e2 : (parts.map fun (i, x) => (i, a.eval x)) = (ps.map fun (i, v) => (i, ren J v)).toArray := by
      rw [← e]; apply Array.ext'; simp
    simp only [execOp, e2, Sem.run_bind, hr, Result.andThen_ok, Sem.run_pure]
  · -- buildSlice
    rename_i t len parts
    replace h := optK_ex h
    obtain ⟨ps, hps, h⟩ := h
    replace h := optK_ex h
    obtain ⟨⟨e, sz, b⟩, he, h⟩ := h
    obtain ⟨i, ht, hi, rfl, rfl⟩ := elemS_some he
    replace h := optK_ex h
    obtain ⟨z, hz, ⟨hzl, hsz, hlen⟩, h⟩ := h
    obtain ⟨i', v, hi', hv, rfl, hfl⟩ := zeroA_some hz
    rw [hi] at hi'
    obtain rfl := Option.some.inj hi'
    replace h := optK_ex h
    obtain ⟨cs, hcs, hk⟩ := h
    obtain ⟨e1, u⟩ := partsA_some hf _ _ hps
    have hzl' : v.cells.size = i.size := by simpa using hzl
    refine ok_row hs (fill_und _ _ _ hcs (fun c hc => und_flats hfl c (mem_reps _ hc)) u) ?_ hk
    have e2 : (parts.map fun (i, x) => (i, a.eval x)) = (ps.map fun (i, v) => (i, ren J v)).toArray := by
      rw [← e1]; apply Array.ext'; simp
    have h1 := fill_sound (J := J) (place := fun q => some (q * i.size, i.size)) (pl := (List.range len).map fun q => (q * i.size, i.size)) (by
        intro q x hq
        rw [List.getElem?_map] at hq
        obtain ⟨r, hr, rfl⟩ := Option.map_eq_some_iff.1 hq
        obtain ⟨hlt, hr⟩ := List.getElem?_eq_some_iff.1 hr
        simp at hr; subst hr; rfl) ps _ cs hcs
    have h2 := reps_made len v.cells (by omega)
    rw [hzl'] at h2
    have h3 : (reps len v.cells.toList).map (ren J) = reps len v.cells.toList := ren_flats fun c hc => hfl c (mem_reps _ hc)
    rw [h3, ← h2] at h1
    have hn1 : ¬ (16777216 < len * i.size) := by omega
    by_cases h0 : len * i.size = 0
    · have hl0 : len = 0 := by
        rcases Nat.mul_eq_zero.1 h0 with h | h
        · exact h
        · omega
      subst hl0
      have hr0 : ∀ f : Nat → Value, (Array.range 0).map f = #[] := fun f => by apply Array.ext'; simp
      rw [Nat.zero_mul, hr0] at h1
      simp [execOp, Instr.buildSlice, run_under ht, run_sizeOf hi, e2, newRow, hr0, h1]
    · simp [execOp, Instr.buildSlice, run_under ht, run_sizeOf hi, e2, newRow, hn1, h0, run_zero hi hv, hzl', h1]
  · -- load
    replace h := optK_ex h
    obtain ⟨p, hp, h⟩ := h
    replace h := optK_ex h
    obtain ⟨b, hb, h⟩ := h
    replace h := optK_ex h
    obtain ⟨v, hv, hk⟩ := h
    obtain rfl := asA_some hb
    obtain ⟨e, u⟩ := ev_sound hf hp
    obtain ⟨u2, hr⟩ := loadA_sound hs (und_ptr.1 u) hv
    refine OpOk.val hs ?_ u2 hk
    rw [ren_ptr] at e
    simp only [execOp, e, Instr.loadAt, Instr.sureAddr, Sem.run_bind, Sem.run_pure, Result.andThen_ok]
    rw [hr]
    rfl
  · -- store
    replace h := optK_ex h
    obtain ⟨p, hp, h⟩ := h
    replace h := optK_ex h
    obtain ⟨b, hb, h⟩ := h
    replace h := optK_ex h
    obtain ⟨v, hv, h⟩ := h
    replace h := optK_ex h
    obtain ⟨H', hH', hk⟩ := h
    obtain rfl := asA_some hb
    obtain ⟨e, u⟩ := ev_sound hf hp
    obtain ⟨e2, u2⟩ := ev_sound hf hv
    obtain ⟨w', hr, hs'⟩ := storeA_sound hs (und_ptr.1 u) u2 hH'
    refine OpOk.skip ?_ hs' hk
    rw [ren_ptr] at e
    simp only [execOp, e, e2, Instr.storeAt, Instr.sureAddr, Sem.run_bind, Sem.run_pure, Result.andThen_ok]
    rw [hr]
    rfl
  · -- nilCheck
    replace h := optK_ex h
    obtain ⟨p, hp, h⟩ := h
    replace h := optK_ex h
    obtain ⟨v, hv, hk⟩ := h
    obtain ⟨e, u⟩ := ev_sound hf hp
    unfold nilA at hv
    split at hv
    · obtain rfl := Option.some.inj hv
      exact OpOk.val hs (by simp [execOp, e]) u hk
    · obtain rfl := Option.some.inj hv
      exact OpOk.val hs (by simp [execOp, e]) u hk
    · cases hv
  · -- binOp
    rename_i op' t x' y' ty'
    replace h := optK_ex h
    obtain ⟨x, hx, h⟩ := h
    replace h := optK_ex h
    obtain ⟨y, hy, h⟩ := h
    obtain ⟨e1, u1⟩ := ev_sound hf hx
    obtain ⟨e2, u2⟩ := ev_sound hf hy
    obtain ⟨v, hr, hv, hk⟩ := binHK_run hs u1 u2 h x' y'
    refine OpOk.val hs (v := v) ?_ (hv n).1 hk
    simp only [execOp, e1, e2]
    rw [Sem.run_bind, hr, Result.andThen_ok, ren, (hv n).2]
    rfl
  · -- unOp
    replace h := optK_ex h
    obtain ⟨x, hx, h⟩ := h
    replace h := optK_ex h
    obtain ⟨v, hv, hk⟩ := h
    obtain ⟨e1, _⟩ := ev_sound hf hx
    unfold unA at hv
    split at hv
    · obtain rfl := Option.some.inj hv
      exact OpOk.val hs (by simp [execOp, e1, Op.unary]) (by simp) hk
    · obtain rfl := Option.some.inj hv
      exact OpOk.val hs (by simp [execOp, e1, Op.unary, Op.intArith]) (by simp) hk
    · cases hv
  · -- fieldAddr
    replace h := optK_ex h
    obtain ⟨p, hp, h⟩ := h
    replace h := optK_ex h
    obtain ⟨b, hb, h⟩ := h
    replace h := optK_ex h
    obtain ⟨off, hoff, hk⟩ := h
    obtain rfl := asA_some hb
    obtain ⟨e, u⟩ := ev_sound hf hp
    refine OpOk.val hs (v := .pointer (some (b.add off))) ?_ (und_ptr.2 (UndA.add (und_ptr.1 u) _)) hk
    rw [ren_ptr] at e
    simp only [execOp, e, Sem.run_bind, run_fieldAt hoff, Result.andThen_ok]
    rw [ren_ptr, renA_add]; rfl
  · -- indexAddr
    replace h := optK_ex h
    obtain ⟨p, hp, h⟩ := h
    replace h := optK_ex h
    obtain ⟨y, hy, h⟩ := h
    replace h := optK_ex h
    obtain ⟨⟨q, i⟩, hi, h⟩ := h
    obtain rfl := asI_some hi
    obtain ⟨e, u⟩ := ev_sound hf hp
    obtain ⟨e2, _⟩ := ev_sound hf hy
    obtain ⟨v, hr, hu, hk⟩ := ixA_run J (q := q) u h
    refine OpOk.val hs (v := v) ?_ hu hk
    rw [ren_int] at e2
    simp only [execOp, e, e2, Sem.run_bind, hr w, Result.andThen_ok]
    rfl
  · -- field
    replace h := optK_ex h
    obtain ⟨x, hx, h⟩ := h
    replace h := optK_ex h
    obtain ⟨cs, hcs, h⟩ := h
    replace h := optK_ex h
    obtain ⟨⟨u, off⟩, hfld, h⟩ := h
    replace h := optK_ex h
    obtain ⟨v, hv, hk⟩ := h
    obtain ⟨e, hu⟩ := ev_sound hf hx
    cases x <;> simp only [asG, Option.some.injEq, reduceCtorEq] at hcs
    rename_i arr
    subst hcs
    unfold fieldA at hfld
    split at hfld
    · rename_i fs hd
      split at hfld
      · rename_i f hf'
        simp only [Option.some.injEq, Prod.mk.injEq] at hfld
        obtain ⟨rfl, rfl⟩ := hfld
        obtain ⟨hr, hu2⟩ := partA_run (J := J) hv (fun c hc => und_of_agg hu (by simpa using hc)) w
        refine OpOk.val hs (v := v) ?_ hu2 hk
        rw [ren_agg] at e
        have e3 : (arr.toList.map (ren J)).toArray = arr.map (ren J) := by apply Array.ext'; simp
        rw [e3] at hr
        simp [execOp, e, Instr.field, run_under hd, hf', asAgg, hr]
      · cases hfld
    · cases hfld
  · -- index
    replace h := optK_ex h
    obtain ⟨x, hx, h⟩ := h
    replace h := optK_ex h
    obtain ⟨y, hy, h⟩ := h
    replace h := optK_ex h
    obtain ⟨⟨q, i⟩, hi, h⟩ := h
    obtain rfl := asI_some hi
    obtain ⟨e, hu⟩ := ev_sound hf hx
    obtain ⟨e2, _⟩ := ev_sound hf hy
    obtain ⟨v, hr, hv, hk⟩ := idxA_run J (q := q) hu h
    refine OpOk.val hs (v := v) ?_ hv hk
    rw [ren_int] at e2
    simp only [execOp, e, e2, Sem.run_bind, hr w, Result.andThen_ok]
    rfl
  · -- convert
    replace h := optK_ex h
    obtain ⟨x, hx, h⟩ := h
    replace h := optK_ex h
    obtain ⟨v, hv, hk⟩ := h
    obtain ⟨e, hu⟩ := ev_sound hf hx
    obtain ⟨hr, hv2⟩ := convA_run J hv
    refine OpOk.val hs (v := v) ?_ (hv2 n) hk
    simp only [execOp, e, Sem.run_bind, hr w, Result.andThen_ok]
    rfl
  · -- slice
    replace h := optK_ex h
    obtain ⟨x, hx, h⟩ := h
    replace h := optK_ex h
    obtain ⟨lo', hlo, h⟩ := h
    replace h := optK_ex h
    obtain ⟨hi', hhi, h⟩ := h
    obtain ⟨e, hu⟩ := ev_sound hf hx
    obtain ⟨v, hr, hv, hk⟩ := sliceA_run J hu h
    refine OpOk.val hs (v := v) ?_ hv hk
    simp only [execOp, e, bndA_some hf hlo, bndA_some hf hhi, Option.map_none, Sem.run_bind, sliceAt_run h, hr w, Result.andThen_ok]
    rfl
  · -- a slice cut at both ends
    replace h := optK_ex h
    obtain ⟨x, hx, h⟩ := h
    replace h := optK_ex h
    obtain ⟨lo', hlo, h⟩ := h
    replace h := optK_ex h
    obtain ⟨hi', hhi, h⟩ := h
    replace h := optK_ex h
    obtain ⟨mv, hmv, h⟩ := h
    replace h := optK_ex h
    obtain ⟨⟨q, m⟩, hm, h⟩ := h
    obtain rfl := asI_some hm
    obtain ⟨e, hu⟩ := ev_sound hf hx
    obtain ⟨e2, _⟩ := ev_sound hf hmv
    rw [ren_int] at e2
    obtain ⟨v, n', J', H', hr, h1, h2, h3, h4, h5⟩ := cutK_sound hs hu h
    refine OpOk.run (v := v) ?_ h1 h2 h3 h4 h5
    simp only [execOp, e, bndA_some hf hlo, bndA_some hf hhi, Option.map_some, e2, Sem.run_bind, hr w, Result.andThen_ok]
    rfl
  · -- makeSlice
    rename_i t lx cx
    replace h := optK_ex h
    obtain ⟨lv, hlv, h⟩ := h
    replace h := optK_ex h
    obtain ⟨⟨q1, l⟩, hl, h⟩ := h
    obtain rfl := asI_some hl
    replace h := optK_ex h
    obtain ⟨cv, hcv, h⟩ := h
    replace h := optK_ex h
    obtain ⟨⟨q2, c⟩, hc, h⟩ := h
    obtain rfl := asI_some hc
    replace h := optK_ex h
    obtain ⟨⟨e, sz, b⟩, he, h⟩ := h
    obtain ⟨i, ht, hi, rfl, rfl⟩ := elemS_some he
    replace h := optK_ex h
    obtain ⟨z, hz, ⟨hzl, hsz, h0, hlc, hby, hcb⟩, hk⟩ := h
    obtain ⟨i', v, hi', hv, rfl, hfl⟩ := zeroA_some hz
    rw [hi] at hi'
    obtain rfl := Option.some.inj hi'
    obtain ⟨e1, _⟩ := ev_sound hf hlv
    obtain ⟨e2, _⟩ := ev_sound hf hcv
    rw [ren_int] at e1 e2
    simp only at h0 hlc hby hcb hzl hsz
    have hzl' : v.cells.size = i.size := by simpa using hzl
    have hst := hs.alloc (T := e) (sz := i.size) (cs := reps c.toNat v.cells.toList) (und_flats fun x hx => hfl x (mem_reps _ hx)) (ex := 0) (tail := []) (by simp)
    rw [List.append_nil, ren_flats fun x hx => hfl x (mem_reps _ hx)] at hst
    refine OpOk.run (J' := jset n (w.heap.size, 0) J) (v := .slice (some ⟨new n, 0, none⟩) l.toNat c.toNat) ?_ hst (by omega) (fun j hj => by rw [jset_ne (by omega)]) (by simp) hk
    have hw1 : IntKind.i64.wrap l = l := by simp [IntKind.wrap, IntKind.bits, IntKind.signed]; omega
    have hw2 : IntKind.i64.wrap c = c := by simp [IntKind.wrap, IntKind.bits, IntKind.signed]; omega
    have hbc : (i.bytes : Int) * c ≤ 281474976710656 := by rw [Int.mul_comm]; exact hby
    have h2 := reps_made c.toNat v.cells (by omega)
    rw [hzl'] at h2
    have hcond : (decide (c < 0) || decide ((i.bytes : Int) * c > 2 ^ 48) || decide (l < 0) || decide (l > c)) = false := by
      simp; omega
    have hask : ∀ (u : World), (askRoom (c.toNat * i.bytes)).run X.C.P u = .ok () u := fun u => by
      unfold askRoom; split <;> simp [mark, Sem.run]
    by_cases hc0 : c.toNat * i.size = 0
    · have hcn : c.toNat = 0 := by
        rcases Nat.mul_eq_zero.1 hc0 with h | h
        · exact h
        · omega
      have hr0 : ∀ f : Nat → Value, (Array.range 0).map f = #[] := fun f => by apply Array.ext'; simp
      simp [execOp, e1, e2, Instr.makeSlice, run_under ht, run_typeInfo hi, run_sizeOf hi, asInt, asIntOf, hw1, hw2, hcond, hask, newRow, hcn, reps, hr0]
      omega
    · simp [execOp, e1, e2, Instr.makeSlice, run_under ht, run_typeInfo hi, run_sizeOf hi, asInt, asIntOf, hw1, hw2, hcond, hask, newRow, hc0, run_zero hi hv, hzl', h2]
      omega
  · -- makeMap
    refine OpOk.run (v := .map (some (new n))) (J' := jset n (w.heap.size, 0) J) ?_ hs.newMap (by omega) (fun j hj => by rw [jset_ne (by omega)]) (by simp) h
    simp [execOp, Instr.makeMap]
  · -- lookup
    replace h := optK_ex h
    obtain ⟨m, hm, h⟩ := h
    replace h := optK_ex h
    obtain ⟨key, hkey, h⟩ := h
    obtain ⟨e1, u1⟩ := ev_sound hf hm
    obtain ⟨e2, _⟩ := ev_sound hf hkey
    obtain ⟨v, hr, hv, hk⟩ := lookK_sound hs u1 h
    refine OpOk.val hs ?_ hv hk
    simp only [execOp, e1, e2, Sem.run_bind, hr, Result.andThen_ok]
    rfl
  · -- mapUpdate
    replace h := optK_ex h
    obtain ⟨m, hm, h⟩ := h
    replace h := optK_ex h
    obtain ⟨key, hkey, h⟩ := h
    replace h := optK_ex h
    obtain ⟨v, hv, h⟩ := h
    obtain ⟨e1, u1⟩ := ev_sound hf hm
    obtain ⟨e2, _⟩ := ev_sound hf hkey
    obtain ⟨e3, u3⟩ := ev_sound hf hv
    obtain ⟨H', w', hr, hs', hk⟩ := updK_sound hs u1 u3 h
    refine OpOk.skip ?_ hs' hk
    simp only [execOp, e1, e2, e3, Sem.run_bind, hr, Result.andThen_ok]
    rfl
  · -- insert
    replace h := optK_ex h
    obtain ⟨m, hm, h⟩ := h
    replace h := optK_ex h
    obtain ⟨key, hkey, h⟩ := h
    replace h := optK_ex h
    obtain ⟨v, hv, h⟩ := h
    obtain ⟨e1, u1⟩ := ev_sound hf hm
    obtain ⟨e2, _⟩ := ev_sound hf hkey
    obtain ⟨e3, u3⟩ := ev_sound hf hv
    obtain ⟨H', w', hr, hs', hk⟩ := updK_sound hs u1 u3 h
    refine OpOk.skip ?_ hs' hk
    simp only [execOp, e1, e2, e3, Sem.run_bind, hr, Result.andThen_ok]
    rfl
  · -- range
    replace h := optK_ex h
    obtain ⟨x, hx, h⟩ := h
    obtain ⟨e1, u1⟩ := ev_sound hf hx
    obtain ⟨ob, O, hr, hs', hk⟩ := rangeK_sound hs u1 h
    refine OpOk.run (v := .pointer (some ⟨new n, 0, none⟩)) ?_ hs' (by omega) (fun j hj => by rw [jset_ne (by omega)]) (by simp) hk
    simp only [execOp, e1, Sem.run_bind, hr, Result.andThen_ok]
    simp
  · -- next
    replace h := optK_ex h
    obtain ⟨x, hx, h⟩ := h
    obtain ⟨e1, u1⟩ := ev_sound hf hx
    obtain ⟨v, H', w', hr, hs', hv, hk⟩ := nextK_sound hs u1 (ty := ty) h
    refine OpOk.run (v := v) ?_ hs' (Nat.le_refl _) (fun _ _ => rfl) hv hk
    simp only [execOp, e1, Sem.run_bind, hr, Result.andThen_ok]
    rfl
  · -- entry
    replace h := optK_ex h
    obtain ⟨x, hx, h⟩ := h
    obtain ⟨e1, u1⟩ := ev_sound hf hx
    obtain ⟨v, hr, hv, hk⟩ := entryK_sound hs u1 h
    refine OpOk.val hs ?_ hv hk
    simp only [execOp, e1, Sem.run_bind, hr, Result.andThen_ok]
    rfl
  · -- extract
    rename_i xo idx
    replace h := optK_ex h
    obtain ⟨x, hx, h⟩ := h
    replace h := optK_ex h
    obtain ⟨cs, hcs, h⟩ := h
    replace h := optK_ex h
    obtain ⟨v, hv, hk⟩ := h
    obtain ⟨e, hu⟩ := ev_sound hf hx
    cases x <;> simp only [asT, Option.some.injEq, reduceCtorEq] at hcs
    rename_i arr
    subst hcs
    rw [ren_tuple] at e
    have hv' : arr[idx]? = some v := by simpa using hv
    refine OpOk.val hs (v := v) ?_ (und_of_tuple hu (Array.mem_of_getElem? hv')) hk
    simp [execOp, e, Instr.extract, hv']
  · -- makeFunc
    rename_i f xs ys
    replace h := optK_ex h
    obtain ⟨x, hx, h⟩ := h
    replace h := optK_ex h
    obtain ⟨y, hy, hk⟩ := h
    obtain ⟨e1, u1⟩ := argsA_some hf _ _ hx
    obtain ⟨e2, u2⟩ := argsA_some hf _ _ hy
    refine OpOk.val hs ?_ (und_func.2 ⟨by simpa using u1, by simpa using u2⟩) hk
    have e3 : xs.map a.eval = (x.map (ren J)).toArray := by rw [← e1]; apply Array.ext'; simp
    have e4 : ys.map a.eval = (y.map (ren J)).toArray := by rw [← e2]; apply Array.ext'; simp
    simp [execOp, Instr.makeFunc, e3, e4]
  · -- call
    rename_i fo args tys
    replace h := optK_ex h
    obtain ⟨f, hf', h⟩ := h
    replace h := optK_ex h
    obtain ⟨⟨g, x, y⟩, hg, h⟩ := h
    replace h := optK_ex h
    obtain ⟨vs, hvs, hent, h⟩ := h
    obtain ⟨e, u⟩ := ev_sound hf hf'
    obtain ⟨e1, u1⟩ := argsA_some hf _ _ hvs
    unfold asF at hg
    split at hg
    · rename_i g' x' y'
      simp only [Option.some.injEq, Prod.mk.injEq] at hg
      obtain ⟨rfl, rfl, rfl⟩ := hg
      obtain ⟨u2, u3⟩ := und_func.1 u
      refine ok_call hs (vs := x'.toList ++ vs ++ y'.toList) ?_ ?_ h
      · intro v hv
        simp only [List.mem_append, Array.mem_toList_iff] at hv
        rcases hv with (hv | hv) | hv
        · exact u2 v hv
        · exact u1 v hv
        · exact u3 v hv
      · have e3 : args.map a.eval = (vs.map (ren J)).toArray := by rw [← e1]; apply Array.ext'; simp
        rw [ren_func] at e
        simp only [execOp, resolve, e, e3, Deferred.ofValue, Sem.run_bind, Sem.run_pure, Result.andThen_ok, invoke]
        rw [entB_run hent]
        congr 2
        apply Array.ext'; simp
    · cases hg
  · -- builtin
    rename_i b args ts
    replace h := optK_ex h
    obtain ⟨vs, hvs, h⟩ := h
    obtain ⟨e1, u1⟩ := argsA_some hf _ _ hvs
    have e3 : args.map a.eval = (vs.map (ren J)).toArray := by rw [← e1]; apply Array.ext'; simp
    unfold builtinA at h
    split at h
    · -- len
      rename_i t _ v _ hts
      replace h := optK_ex h
      obtain ⟨l, hl, hk⟩ := h
      refine OpOk.val hs (v := .int .i64 l) ?_ (by simp) hk
      have ht0 : ts[0]? = some t := by rw [← Array.getElem?_toList, hts]; rfl
      simp only [execOp, resolve, e3, Sem.run_bind, Sem.run_pure, Result.andThen_ok, invoke, builtin]
      have hl2 := lenH_case hl
      clear hl
      rcases hl2 with hl | ⟨q, hq, hl⟩
      · unfold lenA at hl
        split at hl
        · rename_i s htk
          obtain rfl := Option.some.inj hl
          simp [Builtin.len_, ht0, run_under (tk_string htk), goInt]
        · rename_i m _ htk
          obtain rfl := Option.some.inj hl
          obtain ⟨e, hu⟩ := tk_array htk
          simp [Builtin.len_, ht0, run_under hu, goInt]
        · rename_i A l c htk
          obtain rfl := Option.some.inj hl
          obtain ⟨e, hu⟩ := tk_slice htk
          simp [Builtin.len_, ht0, run_under hu, goInt, ren_slice_map]
        · rename_i htk
          obtain rfl := Option.some.inj hl
          obtain ⟨k', e, hu⟩ := tk_map htk
          simp [Builtin.len_, ht0, run_under hu, goInt]
        · cases hl
      · rw [lenM_sound hs ht0 ty hq (u1 v (by simp)) hl]
        simp
    · -- cap
      rename_i t _ v _ hts
      obtain ⟨A, l, c, rfl, htk, h⟩ := h
      have ht0 : ts[0]? = some t := by rw [← Array.getElem?_toList, hts]; rfl
      obtain ⟨e, hu⟩ := tk_slice htk
      have hund := u1 _ (List.mem_cons_self ..)
      have hrun : ∀ x : Nat, c + (A.elim 0 fun a => (dec J a.block).2) = x → (execOp a.eval { dst := dst, op := .call { callee := .builtin .cap, args := args, argTypes := ts }, type := ty, pos := pos, after := after, guard := guard }).run X.C.P w = .ok (.value (.int .i64 x)) w := fun x hx => by
        subst hx
        simp only [execOp, resolve, e3, Sem.run_bind, Sem.run_pure, Result.andThen_ok, invoke, builtin]
        simp [Builtin.cap_, ht0, run_under hu, goInt, ren_slice_map]
      split at h
      · rename_i hex
        refine OpOk.val hs (v := .int .i64 c) ?_ (by simp) h
        rw [ren_int]
        refine hrun c ?_
        cases A with
        | none => rfl
        | some b =>
          simp only [Option.elim]
          simp only [exactA] at hex
          split at hex
          · rename_i hev
            have : (dec J b.block).2 = 0 := by unfold dec; rw [if_pos hev]
            rw [this]; rfl
          · rename_i hod
            have hd : dec J b.block = J (b.block / 2) := by unfold dec; rw [if_neg hod]
            have hob := hs.obj _ (slice_undA hund b rfl (by omega))
            split at hex
            · rename_i hH
              rw [hH] at hob
              have : (J (b.block / 2)).2 = 0 := hob
              rw [hd, this]; rfl
            · rename_i hH
              rw [hH] at hob
              rw [hd, hob.2.1]; rfl
            · cases hex
      · refine OpOk.val hs (v := .int .i64 ((c + (A.elim 0 fun a => (dec J a.block).2) : Nat) : Int)) ?_ (by simp) (h _ (by omega))
        rw [ren_int]
        exact hrun _ rfl
    · -- copy
      rename_i t u d s hts
      replace h := optK_ex h
      obtain ⟨⟨l, H'⟩, hc, hk⟩ := h
      have ht0 : ts[0]? = some t := by rw [← Array.getElem?_toList, hts]; rfl
      obtain ⟨w', hr, hs'⟩ := copyA_sound hs ht0 ty (u1 d (by simp)) (u1 s (by simp)) hc
      refine OpOk.run (v := .int .i64 l) (J' := J) ?_ hs' (Nat.le_refl _) (fun _ _ => rfl) (by simp) hk
      simp only [execOp, resolve, e3, Sem.run_bind, Sem.run_pure, Result.andThen_ok, invoke, builtin, List.map_cons, List.map_nil]
      rw [hr]
      simp
    · -- delete
      rename_i t _ m x hts
      have ht0 : ts[0]? = some t := by rw [← Array.getElem?_toList, hts]; rfl
      obtain ⟨H', w', hr, hs', hk⟩ := delK_sound hs ht0 ty (u1 m (by simp)) h
      refine OpOk.run (v := .tuple #[]) (J' := J) ?_ hs' (Nat.le_refl _) (fun _ _ => rfl) (und_tuple (by simp)) hk
      simp only [execOp, resolve, e3, Sem.run_bind, Sem.run_pure, Result.andThen_ok, invoke, builtin, List.map_cons, List.map_nil]
      rw [hr]
      simp
    · -- append
      rename_i t u s x hts
      obtain ⟨rfl, h⟩ := h
      obtain ⟨r, n', J', H', w', hr, h1, h2, h3, h4, h5⟩ := appK_sound hs (ty := ty) (u1 s (by simp)) (u1 x (by simp)) h
      refine OpOk.run (v := r) ?_ h1 h2 h3 h4 h5
      have ht : ts = #[t, t] := by apply Array.ext'; simpa using hts
      simp only [execOp, resolve, e3, Sem.run_bind, Sem.run_pure, Result.andThen_ok, invoke, builtin, ht, List.map_cons, List.map_nil]
      rw [hr]
      rfl
    · -- clear
      rename_i t _ v _ hts
      obtain ⟨A, l, c, rfl, htk, h⟩ := h
      have ht0 : ts[0]? = some t := by rw [← Array.getElem?_toList, hts]; rfl
      have hu := u1 _ (List.mem_cons_self ..)
      rcases h with ⟨rfl, hk⟩ | ⟨a', e, sz, b, z, H', rfl, hl0, he, hz, hzl, hH', hk⟩
      · obtain ⟨e, hun⟩ := tk_slice htk
        refine OpOk.val hs (v := .tuple #[]) ?_ (und_tuple (by simp)) hk
        simp only [execOp, resolve, e3, Sem.run_bind, Sem.run_pure, Result.andThen_ok, invoke, builtin]
        cases A <;> simp [Builtin.clear_, ht0, run_under hun]
      · obtain ⟨i, hun, hi, rfl, rfl⟩ := elemS_some he
        obtain ⟨i', zv, hi', hzv, rfl, hzf⟩ := zeroA_some hz
        have hmem : ∀ x ∈ reps l zv.cells.toList, flat x = true := fun x hx => hzf x (mem_reps l hx)
        obtain ⟨w', hr, hs'⟩ := putA_sound hs (a := a') (und_slice.1 hu) (und_flats hmem) hH'
        rw [ren_flats hmem] at hr
        have e4 : (Builtin.zeroCells zv.cells l).toList = reps l zv.cells.toList := by
          unfold Builtin.zeroCells
          rw [reps_made l zv.cells (by simpa using hzl)]
        refine OpOk.run (v := .tuple #[]) (J' := J) (n' := n) ?_ hs' (Nat.le_refl _) (fun _ _ => rfl) (und_tuple (by simp)) hk
        simp only [execOp, resolve, e3, Sem.run_bind, Sem.run_pure, Result.andThen_ok, invoke, builtin]
        obtain ⟨l, rfl⟩ : ∃ m, l = m + 1 := ⟨l - 1, by omega⟩
        have e5 : (Builtin.clear_ ts ty ((List.map (ren J) (Value.slice (some a') (l + 1) c :: ‹List Value›)).toArray)).run X.C.P w = .ok (.tuple #[]) w' := by
          have e6 : ren J (.slice (some a') (l + 1) c) = .slice (some (renA J a')) (l + 1) (c + (dec J a'.block).2) := renV_slice _ _ _ _
          simp only [Builtin.clear_, ht0, List.map_cons, e6, List.getElem?_toArray, List.getElem?_cons_zero, Sem.run_bind, run_under hun, Result.andThen_ok, run_zero hi' hzv, e4]
          rw [hr]; rfl
        rw [e5]
        simp
    · -- max
      rename_i q x q' y
      refine OpOk.val hs (v := .int q (if x < y then y else x)) ?_ (by simp) h
      simp [execOp, resolve, e3, invoke, builtin, Builtin.max_, Builtin.max2]
    · -- min
      rename_i q x q' y
      refine OpOk.val hs (v := .int q (if y < x then y else x)) ?_ (by simp) h
      simp [execOp, resolve, e3, invoke, builtin, Builtin.min_, Builtin.min2]
    · exact h.elim
  · exact h.elim
end
end Go.Aw
