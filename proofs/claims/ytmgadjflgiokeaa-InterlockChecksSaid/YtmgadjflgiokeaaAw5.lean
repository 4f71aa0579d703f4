/-
  The abstract machine, part 5: append.
-/
import Derived.Test.YtmgadjflgiokeaaAw4
import Derived.Laws.CopyOwn
import Derived.Laws.AppendOwn
namespace Go.Aw
open Go.RowKit

theorem heap_setRow_other (w : World) (g : Nat) (arr : Array Value) (b : Nat) (h : b ≠ g) : (w.setRow g arr).heap[b]? = w.heap[b]? := by
  unfold World.setRow; simp [Array.getElem?_modify, Ne.symm h]
theorem heap_setRow_same (w : World) (g : Nat) (arr cur : Array Value) (e : TypeId) (f : Nat × Nat) (h : w.heap[g]? = some (.cells cur e f)) : (w.setRow g arr).heap[g]? = some (.cells arr e f) := by
  unfold World.setRow; simp [Array.getElem?_modify, h]

/-- The row of an object is written anew, and the object gets a new number. -/
theorem St.regrow {C : Ctx} {n : Nat} {J : Nat → Nat × Nat} {H : Heap} {w : World} (hs : St C n J H w) {i : Nat} (hi : i < n) {cs : List Value} {T sz : Nat}
    (hH : H i = .cells cs T sz) {cs' tail : List Value} {ex : Nat} (hu : ∀ v ∈ cs', Und n v) (ht : tail.length = ex * sz) :
    St C (n + 1) (jset n ((J i).1, ex) J) (hset n (.cells cs' T sz) (hset i .dead H)) (w.setRow (J i).1 (cs'.map (ren J) ++ tail).toArray) := by
  have ho := hs.obj i hi
  rw [hH] at ho
  obtain ⟨_, tail0, _, hc⟩ := ho
  have hlive : (H i).live := by rw [hH]; trivial
  refine ⟨below_setRow hs.below (hs.lo i hi) _, hs.drw, ?_, ?_, ?_⟩
  · intro j hj
    by_cases h : j = n
    · subst h; simpa using hs.lo i hi
    · rw [jset_ne h]; exact hs.lo j (by omega)
  · intro j hj
    by_cases h : j = n
    · subst h
      simp only [hset_same, jset_same]
      refine ⟨fun v hv => (hu v hv).mono (by omega), tail, ht, ?_⟩
      have : cs'.map (ren (jset j ((J i).1, ex) J)) = cs'.map (ren J) := List.map_congr_left fun v hv => (hu v hv).jset _ _
      rw [this]
      exact heap_setRow_same _ _ _ _ _ _ hc
    · rw [hset_ne h, jset_ne h]
      by_cases h2 : j = i
      · subst h2; rw [hset_same]; trivial
      · rw [hset_ne h2]
        refine (hs.obj j (by omega)).keep (by omega) (fun k hk => by rw [jset_ne (by omega)]) fun hl => ?_
        exact heap_setRow_other _ _ _ _ (hs.inj j i (by omega) hi h2 hl hlive)
  · intro a b ha hb hab hla hlb
    have key : ∀ c, c < n → (hset i .dead H c).live → c ≠ i ∧ (H c).live := by
      intro c _ hl
      by_cases h : c = i
      · subst h; rw [hset_same] at hl; exact hl.elim
      · rw [hset_ne h] at hl; exact ⟨h, hl⟩
    by_cases h1 : a = n
    · subst h1
      rw [hset_ne (by omega)] at hlb
      obtain ⟨h3, h4⟩ := key b (by omega) hlb
      rw [jset_same, jset_ne (by omega)]
      exact hs.inj i b hi (by omega) (Ne.symm h3) hlive h4
    · rw [hset_ne h1] at hla
      obtain ⟨h3, h4⟩ := key a (by omega) hla
      by_cases h2 : b = n
      · subst h2
        rw [jset_same, jset_ne h1]
        exact hs.inj a i (by omega) hi h3 h4 hlive
      · rw [hset_ne h2] at hlb
        obtain ⟨h5, h6⟩ := key b (by omega) hlb
        rw [jset_ne h1, jset_ne h2]
        exact hs.inj a b (by omega) (by omega) hab h4 h6
/-- The row of an object is written anew. -/
theorem St.row {C : Ctx} {n : Nat} {J : Nat → Nat × Nat} {H : Heap} {w : World} (hs : St C n J H w) {i : Nat} (hi : i < n) {cs : List Value} {T sz : Nat}
    (hH : H i = .cells cs T sz) {cs' tail : List Value} (hu : ∀ v ∈ cs', Und n v) (ht : tail.length = (J i).2 * sz) :
    St C n J (hset i (.cells cs' T sz) H) (w.setRow (J i).1 (cs'.map (ren J) ++ tail).toArray) := by
  have ho := hs.obj i hi
  rw [hH] at ho
  obtain ⟨_, tail0, _, hc⟩ := ho
  have hlive : (H i).live := by rw [hH]; trivial
  refine ⟨below_setRow hs.below (hs.lo i hi) _, hs.drw, hs.lo, ?_, ?_⟩
  · intro j hj
    by_cases h2 : j = i
    · subst h2; rw [hset_same]; exact ⟨hu, tail, ht, heap_setRow_same _ _ _ _ _ _ hc⟩
    · rw [hset_ne h2]
      refine (hs.obj j hj).keep (Nat.le_refl _) (fun _ _ => rfl) fun hl => ?_
      exact heap_setRow_other _ _ _ _ (hs.inj j i hj hi h2 hl hlive)
  · intro a b ha hb hab hla hlb
    refine hs.inj a b ha hb hab ?_ ?_
    · by_cases h : a = i
      · subst h; exact hlive
      · rwa [hset_ne h] at hla
    · by_cases h : b = i
      · subst h; exact hlive
      · rwa [hset_ne h] at hlb

/-- The cells that a slice shows. -/
def rowA (C : Ctx) (H : Heap) (A : Option Addr) (k : Nat) : Option (List Value) :=
  match A with
  | none => if k = 0 then some [] else none
  | some a => getN C H a k 0
theorem getN_get {C : Ctx} {H : Heap} {a : Addr} : ∀ (k i : Nat) (l : List Value), getN C H a k i = some l → l.length = k ∧ ∀ j v, l[j]? = some v → get C H (a.add (i + j)) = some v
  | 0, i, l, h => by simp only [getN, Option.some.injEq] at h; subst h; simp
  | k + 1, i, l, h => by
    simp only [getN] at h
    split at h
    · rename_i v hv
      split at h
      · rename_i r hr
        obtain rfl := Option.some.inj h
        obtain ⟨h1, h2⟩ := getN_get k (i + 1) r hr
        refine ⟨by simp [h1], fun j u hj => ?_⟩
        cases j with
        | zero => simp at hj; subst hj; simpa using hv
        | succ j => simp at hj; have := h2 j u hj; rwa [show i + 1 + j = i + (j + 1) from by omega] at this
      · cases h
    · cases h

inductive AppR where
  | same
  | room (H' : Heap)
  | grow (cs : List Value) (H' : Heap)
/-- What append(s, x) comes to: the slice as it is, its own row written, or a new row. -/
def appA (C : Ctx) (H : Heap) (e : TypeId) (sz : Nat) (A : Option Addr) (l c : Nat) (new : List Value) (m : Nat) : Option AppR :=
  if m = 0 then (if l ≤ c then some .same else none)
  else match A with
    | none => if l = 0 ∧ c = 0 then some (.grow new H) else none
    | some a =>
      if a.block % 2 = 0 then
        if c < l + m then match getN C H a (l * sz) 0 with
          | some old => some (.grow (old ++ new) H)
          | none => none
        else none
      else match H (a.block / 2) with
        | .tight => if l = 0 ∧ c < m then some (.grow new H) else none
        | .fixed cs T sz' => if a.off = 0 ∧ a.spot = none ∧ T = e ∧ sz' = sz ∧ c * sz = cs.length ∧ l ≤ c then
            if l + m ≤ c then some (.room (hset (a.block / 2) (.cells (cs.take (l * sz) ++ new ++ cs.drop (l * sz + new.length)) T sz) H))
            else some (.grow (cs.take (l * sz) ++ new) H)
          else none
        | .cells cs T sz' =>
          if a.off = 0 ∧ a.spot = none ∧ T = e ∧ sz' = sz ∧ c * sz = cs.length ∧ l ≤ c then
            if l + m ≤ c then some (.room (hset (a.block / 2) (.cells (cs.take (l * sz) ++ new ++ cs.drop (l * sz + new.length)) T sz) H))
            else some (.grow (cs.take (l * sz) ++ new) (hset (a.block / 2) .dead H))
          else none
        | _ => none
def appK (C : Ctx) (H : Heap) (t : TypeId) (n : Nat) (s x : Value) (k : Value → Nat → Heap → Prop) : Prop :=
  match s, x with
  | .slice A l c, .slice B m _ =>
    optK (elemS C.P t) fun ⟨e, sz, by_⟩ => optK (zeroA C.P e) fun z => z.length = sz ∧ 0 < sz ∧ (l + m) * by_ ≤ 140737488355328 ∧ l + m ≤ 140737488355328 ∧ optK (rowA C H B (m * sz)) fun new => oneAll new = true ∧
      optK (appA C H e sz A l c new m) fun
        | .same => k (.slice A l c) n H
        | .room H' => k (.slice A (l + m) c) n H'
        | .grow cs H' => k (.slice (some ⟨new_ n, 0, none⟩) (l + m) (l + m)) (n + 1) (hset n (.cells cs e sz) H')
  | _, _ => False
where new_ (n : Nat) : Nat := Aw.new n

theorem elemS_some {P : Program} {t e : TypeId} {sz by_ : Nat} (h : elemS P t = some (e, sz, by_)) : ∃ i, P.underlying t = some (.slice e) ∧ P.info? e = some i ∧ i.size = sz ∧ i.bytes = by_ := by
  unfold elemS at h
  split at h
  · rename_i e' hu
    split at h
    · rename_i i hi
      simp only [Option.some.injEq, Prod.mk.injEq] at h
      obtain ⟨rfl, h1, h2⟩ := h
      exact ⟨i, hu, hi, h1, h2⟩
    · cases h
  · cases h
theorem zeroA_some {P : Program} {t : TypeId} {z : List Value} (h : zeroA P t = some z) : ∃ i v, P.info? t = some i ∧ i.zero = some v ∧ v.cells.toList = z ∧ ∀ c ∈ z, flat c = true := by
  unfold zeroA at h
  split at h
  · rename_i i hi
    split at h
    · rename_i v hv
      split at h
      · rename_i hf
        obtain rfl := Option.some.inj h
        exact ⟨i, v, hi, hv, rfl, fun c hc => List.all_eq_true.1 hf c hc⟩
      · cases h
    · cases h
  · cases h
theorem rowA_some {C : Ctx} {n : Nat} {J : Nat → Nat × Nat} {H : Heap} {w : World} (hs : St C n J H w) {A : Option Addr} {k : Nat} {l : List Value} (ha : ∀ a, A = some a → UndA n a)
    (h : rowA C H A k = some l) : l.length = k ∧ (∀ v ∈ l, Und n v) ∧ ∀ a, A = some a → ∀ j v, (l.map (ren J))[j]? = some v → w.cell? ((renA J a).add j) = some v := by
  unfold rowA at h
  split at h
  · split at h
    · obtain rfl := Option.some.inj h
      rename_i hk
      exact ⟨by simp [hk], by simp, by simp⟩
    · cases h
  · rename_i a
    obtain ⟨h1, h2⟩ := getN_get k 0 l h
    have h3 := (getN_sound hs (ha a rfl) k 0 l #[] h).1
    refine ⟨h1, h3, fun b hb j v hv => ?_⟩
    obtain rfl := Option.some.inj hb
    rw [List.getElem?_map] at hv
    obtain ⟨u, hu, rfl⟩ := Option.map_eq_some_iff.1 hv
    have := (get_sound hs ((ha a rfl).add _) (h2 j u hu)).1
    rw [renA_add, Nat.zero_add] at this
    exact this
theorem ren_oneCell' (J : Nat → Nat × Nat) (v : Value) : (ren J v).oneCell' = v.oneCell' := by
  cases v with
  | pointer a => cases a <;> simp [Value.oneCell']
  | slice a l c => cases a <;> simp [Value.oneCell']
  | map r => cases r <;> simp [Value.oneCell']
  | chan r => cases r <;> simp [Value.oneCell']
  | _ => simp [Value.oneCell']
theorem slice_undA {n : Nat} {A : Option Addr} {l c : Nat} (h : Und n (.slice A l c)) : ∀ a, A = some a → UndA n a := by
  rintro a rfl; exact und_slice.1 h
theorem ren_slice_map (J : Nat → Nat × Nat) (A : Option Addr) (l c : Nat) : ren J (.slice A l c) = .slice (A.map (renA J)) l (c + (A.elim 0 fun a => (dec J a.block).2)) := by
  cases A <;> simp [renA]

theorem arr_app (xs : List Value) (ys : Array Value) : xs.toArray ++ ys = (xs ++ ys.toList).toArray := by
  apply Array.ext'; simp
theorem arr_app3 (f : Value → Value) (xs ys : List Value) (zs : Array Value) : (xs.map f).toArray ++ (ys.map f).toArray ++ zs = ((xs ++ ys).map f ++ zs.toList).toArray := by
  apply Array.ext'; simp
theorem run_append_zero {P : Program} (w : World) (t ty e : TypeId) (i : TypeInfo) (ht : P.underlying t = some (.slice e)) (hi : P.info? e = some i) (A B : Option Addr) (l c d : Nat) (hc : l ≤ c) :
    (Builtin.append_ #[t, t] ty #[.slice A l c, .slice B 0 d]).run P w = .ok (.slice A l c) w := by
  cases A <;> cases B <;> simp [Builtin.append_, run_under ht, run_sizeOf hi, Builtin.lenOf, hc, Builtin.firstCells, loadCells, loadCellsFrom, storeCells]

set_option maxHeartbeats 1000000 in
theorem appK_sound {C : Ctx} {n : Nat} {J : Nat → Nat × Nat} {H : Heap} {w : World} (hs : St C n J H w) {t ty : TypeId} {s x : Value} {k : Value → Nat → Heap → Prop} (hu1 : Und n s) (hu2 : Und n x)
    (h : appK C H t n s x k) : ∃ r n' J' H' w', (Builtin.append_ #[t, t] ty #[ren J s, ren J x]).run C.P w = .ok (ren J' r) w' ∧ St C n' J' H' w' ∧ n ≤ n' ∧ (∀ i, i < n → J' i = J i) ∧ Und n' r ∧ k r n' H' := by
  unfold appK at h
  split at h
  case h_2 => exact h.elim
  rename_i A l c B m d
  replace h := optK_ex h
  obtain ⟨⟨e, sz, by_⟩, he, h⟩ := h
  obtain ⟨i, ht, hi, rfl, rfl⟩ := elemS_some he
  replace h := optK_ex h
  obtain ⟨z, hz, hzl, hsz, hb, hlm, h⟩ := h
  obtain ⟨i', zv, hi', hzv, rfl, hzf⟩ := zeroA_some hz
  rw [hi] at hi'
  obtain rfl := Option.some.inj hi'
  replace h := optK_ex h
  obtain ⟨new, hnew, hone, h⟩ := h
  replace h := optK_ex h
  obtain ⟨r, hr, h⟩ := h
  obtain ⟨hn1, hn2, hn3⟩ := rowA_some hs (slice_undA hu2) hnew
  have hone' : ∀ u ∈ new.map (ren J), u.oneCell' = true := by
    intro u hu
    obtain ⟨v, hv, rfl⟩ := List.mem_map.1 hu
    rw [ren_oneCell']
    exact List.all_eq_true.1 hone v hv
  unfold appA at hr
  split at hr
  · -- nothing is appended
    rename_i hm
    subst hm
    split at hr
    · rename_i hc
      obtain rfl := Option.some.inj hr
      refine ⟨_, n, J, H, w, ?_, hs, Nat.le_refl _, fun _ _ => rfl, hu1, h⟩
      rw [ren_slice_map J A, ren_slice_map J B, run_append_zero w t ty e i ht hi _ _ _ _ _ (by omega)]
    · cases hr
  rename_i hm
  have hB : ∃ b, B = some b := by
    cases B with
    | none =>
      simp only [rowA] at hnew
      split at hnew
      · rename_i h0; have : m * i.size ≠ 0 := Nat.mul_ne_zero hm (by omega); omega
      · cases hnew
    | some b => exact ⟨b, rfl⟩
  obtain ⟨b, rfl⟩ := hB
  have hnews := hn3 b rfl
  have hzsz : zv.cells.size = i.size := by rw [← hzl]; simp
  have htail : ∀ q, (Builtin.zeroCells zv.cells q).toList.length = q * i.size := by intro q; rw [Array.length_toList, size_zeroCells, hzsz]
  split at hr
  · -- onto nil
    split at hr
    · rename_i h0
      obtain ⟨rfl, rfl⟩ := h0
      obtain rfl := Option.some.inj hr
      have hcap := grownCap_ge w m 0 e
      have hrun := run_append_nil (P := C.P) w t ty e i zv ht hi hzv (renA J b) m (d + (dec J b.block).2) (new.map (ren J)) (by simp [hn1]) hnews (by omega) (by omega)
        (by have : m * i.bytes ≤ 140737488355328 := by simpa using hb
            omega)
      have hst := (hs.drew).alloc (T := e) (sz := i.size) hn2 (ex := grownCap w m 0 e - m) (tail := (Builtin.zeroCells zv.cells (grownCap w m 0 e - m)).toList) (htail _)
      refine ⟨_, n + 1, _, _, _, ?_, hst, by omega, fun j hj => by rw [jset_ne (by omega)], by simp [appK.new_], h⟩
      have e1 : ren J (.slice (some b) m d) = .slice (some (renA J b)) m (d + (dec J b.block).2) := by simp [renA]
      rw [e1, ren, renV_slice_none, hrun]
      simp only [appK.new_, renV_slice, dec_new, jset_same, Nat.zero_add]
      congr 1
      · congr 1; omega
      · rw [← arr_app]; rfl
    · cases hr
  rename_i a
  have ha := slice_undA hu1 a rfl
  have e1 : ren J (.slice (some b) m d) = .slice (some (renA J b)) m (d + (dec J b.block).2) := by simp [renA]
  have e2 : ren J (.slice (some a) l c) = .slice (some (renA J a)) l (c + (dec J a.block).2) := by simp [renA]
  rw [e1, e2]
  split at hr
  · -- a slice that was there
    rename_i hev
    split at hr
    · rename_i hlt
      split at hr
      · rename_i olds hold
        obtain rfl := Option.some.inj hr
        have hd0 : (dec J a.block).2 = 0 := by unfold dec; rw [if_pos hev]
        obtain ⟨ho1, ho2, ho3⟩ := rowA_some hs (A := some a) (k := l * i.size) (l := olds) (fun _ e => by obtain rfl := Option.some.inj e; exact ha) hold
        have hcap := grownCap_ge w (l + m) c e
        have hrun := run_append_grow (P := C.P) w t ty e i zv ht hi hzv (renA J a) l c (olds.map (ren J)) (by simp [ho1]) (ho3 a rfl) (renA J b) m (d + (dec J b.block).2) (new.map (ren J)) (by simp [hn1]) hnews hlt (by omega)
          (growslice_fits hlt hb)
        have hst := (hs.drew).alloc (T := e) (sz := i.size) (cs := olds ++ new) (by intro v hv; rcases List.mem_append.1 hv with h | h; exact ho2 v h; exact hn2 v h) (ex := grownCap w (l + m) c e - (l + m)) (tail := (Builtin.zeroCells zv.cells (grownCap w (l + m) c e - (l + m))).toList) (htail _)
        refine ⟨_, n + 1, _, _, _, ?_, hst, by omega, fun j hj => by rw [jset_ne (by omega)], by simp [appK.new_], h⟩
        rw [hd0, Nat.add_zero, hrun]
        simp only [appK.new_, renV_slice, dec_new, jset_same]
        congr 1
        · congr 1; omega
        · rw [arr_app3]; rfl
      · cases hr
    · cases hr
  rename_i hod
  have hlt : a.block / 2 < n := ha (by omega)
  have hdec : dec J a.block = J (a.block / 2) := by unfold dec; rw [if_neg hod]
  split at hr
  · -- another name of a row
    rename_i hH
    split at hr
    · rename_i hc
      obtain ⟨rfl, hc⟩ := hc
      obtain rfl := Option.some.inj hr
      have ho := hs.obj _ hlt
      rw [hH] at ho
      have hd0 : (dec J a.block).2 = 0 := by rw [hdec]; exact ho
      have hcap := grownCap_ge w (0 + m) c e
      have hrun := run_append_grow (P := C.P) w t ty e i zv ht hi hzv (renA J a) 0 c [] (by simp) (by simp) (renA J b) m (d + (dec J b.block).2) (new.map (ren J)) (by simp [hn1]) hnews (by omega) (by omega)
        (growslice_fits (by omega) hb)
      have hst := (hs.drew).alloc (T := e) (sz := i.size) (cs := new) hn2 (ex := grownCap w (0 + m) c e - (0 + m)) (tail := (Builtin.zeroCells zv.cells (grownCap w (0 + m) c e - (0 + m))).toList) (htail _)
      refine ⟨_, n + 1, _, _, _, ?_, hst, by omega, fun j hj => by rw [jset_ne (by omega)], by simp [appK.new_], h⟩
      rw [hd0, Nat.add_zero, hrun]
      simp only [appK.new_, renV_slice, dec_new, jset_same]
      congr 1
      · congr 1; omega
      · congr 3
        rw [← arr_app]; simp
    · cases hr
  · -- a row that has no room behind it
    rename_i cs T sz' hH
    split at hr
    · rename_i hcond
      obtain ⟨hoff, hspot, rfl, rfl, hcl, hlc⟩ := hcond
      have hra : renA J a = ⟨(J (a.block / 2)).1, 0, none⟩ := by unfold renA; rw [hdec, hoff, hspot]
      have ho := hs.obj _ hlt
      rw [hH] at ho
      obtain ⟨hcu, hj0, hcell⟩ := ho
      have hle : l * i.size ≤ cs.length := by rw [← hcl]; exact Nat.mul_le_mul_right _ hlc
      have hcs' : ∀ v ∈ cs.take (l * i.size) ++ new, Und n v := by
        intro v hv
        rcases List.mem_append.1 hv with h | h
        · exact hcu v (List.mem_of_mem_take h)
        · exact hn2 v h
      have hnl : (new.map (ren J)).length = m * i.size := by simp [hn1]
      split at hr
      · rename_i hroom
        obtain rfl := Option.some.inj hr
        have hs1 : St C n J (hset (a.block / 2) (.cells cs T i.size) H) w := hs.loose fun q hq => by
          by_cases e : q = a.block / 2
          · subst e; right; rw [hset_same, hH]; rfl
          · left; rw [hset_ne e]
        have hfit : (l + m) * i.size ≤ cs.length := by rw [← hcl]; exact Nat.mul_le_mul_right _ hroom
        have hfit' : l * i.size + m * i.size ≤ cs.length := by rw [← Nat.add_mul]; exact hfit
        have hrun := run_append_room (P := C.P) w t ty T i ht hi (J (a.block / 2)).1 l (c + (J (a.block / 2)).2) (cs.map (ren J)).toArray hcell (renA J b) m (d + (dec J b.block).2) (new.map (ren J)) hnl hnews hone' (by omega)
          (by rw [hnl]; simp; omega)
        have hst := hs1.row hlt (hset_same _ _ _) (cs' := cs.take (l * i.size) ++ new ++ cs.drop (l * i.size + new.length)) (tail := []) (by
          intro v hv
          rcases List.mem_append.1 hv with h | h
          · exact hcs' v h
          · exact hcu v (List.mem_of_mem_drop h)) (by rw [hj0]; simp)
        have hhh : hset (a.block / 2) (.cells (cs.take (l * i.size) ++ new ++ cs.drop (l * i.size + new.length)) T i.size) (hset (a.block / 2) (.cells cs T i.size) H) = hset (a.block / 2) (.cells (cs.take (l * i.size) ++ new ++ cs.drop (l * i.size + new.length)) T i.size) H := by
          funext q; by_cases e : q = a.block / 2
          · subst e; simp
          · simp [hset_ne e]
        rw [hhh] at hst
        refine ⟨_, n, J, _, _, ?_, hst, Nat.le_refl _, fun _ _ => rfl, und_slice.2 ha, h⟩
        rw [hra, hdec, hrun]
        simp only [ren, renV_slice, hdec, hoff, hspot]
        congr 2
        simp only [List.length_map]
        rw [hn1]
        simp [List.map_drop, List.map_take, List.append_assoc]
      · rename_i hroom
        obtain rfl := Option.some.inj hr
        have hlt' : c < l + m := by omega
        have hcap := grownCap_ge w (l + m) c T
        have holds : ∀ j v, ((cs.take (l * i.size)).map (ren J))[j]? = some v → w.cell? ((renA J a).add j) = some v := by
          intro j v hv
          rw [hra, Addr.add_lit]
          unfold World.cell?
          simp only [hcell]
          rw [List.map_take, List.getElem?_take] at hv
          split at hv
          · rename_i hj
            simpa using hv
          · cases hv
        have hrun := run_append_grow (P := C.P) w t ty T i zv ht hi hzv (renA J a) l c ((cs.take (l * i.size)).map (ren J)) (by simp; omega) holds (renA J b) m (d + (dec J b.block).2) (new.map (ren J)) hnl hnews hlt' (by omega)
          (growslice_fits hlt' hb)
        have hst := (hs.drew).alloc (T := T) (sz := i.size) hcs' (ex := grownCap w (l + m) c T - (l + m)) (tail := (Builtin.zeroCells zv.cells (grownCap w (l + m) c T - (l + m))).toList) (htail _)
        refine ⟨_, n + 1, _, _, _, ?_, hst, by omega, fun j hj => by rw [jset_ne (by omega)], by simp [appK.new_], h⟩
        rw [hdec, hj0, Nat.add_zero, hrun]
        simp only [appK.new_, renV_slice, dec_new, jset_same]
        congr 1
        · congr 1; omega
        · rw [arr_app3]; rfl
    · cases hr
  · rename_i cs T sz' hH
    split at hr
    · rename_i hcond
      obtain ⟨hoff, hspot, rfl, rfl, hcl, hlc⟩ := hcond
      have hra : renA J a = ⟨(J (a.block / 2)).1, 0, none⟩ := by unfold renA; rw [hdec, hoff, hspot]
      have ho := hs.obj _ hlt
      rw [hH] at ho
      obtain ⟨hcu, tail0, htl, hcell⟩ := ho
      have hle : l * i.size ≤ cs.length := by rw [← hcl]; exact Nat.mul_le_mul_right _ hlc
      have hcs' : ∀ v ∈ cs.take (l * i.size) ++ new, Und n v := by
        intro v hv
        rcases List.mem_append.1 hv with h | h
        · exact hcu v (List.mem_of_mem_take h)
        · exact hn2 v h
      have htake : (cs.map (ren J) ++ tail0).take (l * i.size) = (cs.take (l * i.size)).map (ren J) := by
        rw [List.take_append_of_le_length (by simpa using hle), List.map_take]
      have hnl : (new.map (ren J)).length = m * i.size := by simp [hn1]
      split at hr
      · -- its row has room
        rename_i hroom
        obtain rfl := Option.some.inj hr
        have hfit : (l + m) * i.size ≤ cs.length := by rw [← hcl]; exact Nat.mul_le_mul_right _ hroom
        have hfit' : l * i.size + m * i.size ≤ cs.length := by rw [← Nat.add_mul]; exact hfit
        have hrun := run_append_room (P := C.P) w t ty T i ht hi (J (a.block / 2)).1 l (c + (J (a.block / 2)).2) (cs.map (ren J) ++ tail0).toArray hcell (renA J b) m (d + (dec J b.block).2) (new.map (ren J)) hnl hnews hone' (by omega)
          (by rw [hnl]; simp; omega)
        have hst := hs.row hlt hH (cs' := cs.take (l * i.size) ++ new ++ cs.drop (l * i.size + new.length)) (tail := tail0) (by
          intro v hv
          rcases List.mem_append.1 hv with h | h
          · exact hcs' v h
          · exact hcu v (List.mem_of_mem_drop h)) htl
        refine ⟨_, n, J, _, _, ?_, hst, Nat.le_refl _, fun _ _ => rfl, und_slice.2 ha, h⟩
        rw [hra, hdec, hrun]
        simp only [ren, renV_slice, hdec, hoff, hspot]
        congr 2
        simp only [htake, List.length_map]
        rw [hn1, List.drop_append_of_le_length (by simpa using hfit')]
        simp [List.map_drop, List.append_assoc]
      · -- a new row, or the old one with room behind it
        rename_i hroom
        obtain rfl := Option.some.inj hr
        by_cases hex : l + m ≤ c + (J (a.block / 2)).2
        · have hcur : (cs.map (ren J) ++ tail0).length = (c + (J (a.block / 2)).2) * i.size := by rw [List.length_append, List.length_map, htl, ← hcl, Nat.add_mul]
          have hfit : (l + m) * i.size ≤ (cs.map (ren J) ++ tail0).length := by rw [hcur]; exact Nat.mul_le_mul_right _ hex
          have hrun := run_append_room (P := C.P) w t ty T i ht hi (J (a.block / 2)).1 l (c + (J (a.block / 2)).2) (cs.map (ren J) ++ tail0).toArray hcell (renA J b) m (d + (dec J b.block).2) (new.map (ren J)) hnl hnews hone' hex
            (by rw [hnl, ← Nat.add_mul]; simpa using hfit)
          have hst := hs.regrow hlt hH hcs' (ex := c + (J (a.block / 2)).2 - (l + m)) (tail := (cs.map (ren J) ++ tail0).drop (l * i.size + (new.map (ren J)).length)) (by
            rw [List.length_drop, hcur, hnl, ← Nat.add_mul, ← Nat.sub_mul])
          refine ⟨_, n + 1, _, _, _, ?_, hst, by omega, fun j hj => by rw [jset_ne (by omega)], by simp [appK.new_], h⟩
          rw [hra, hdec, hrun]
          simp only [appK.new_, renV_slice, dec_new, jset_same]
          congr 1
          · congr 1; omega
          · rw [htake]; simp [List.append_assoc]
        · have hlt' : c + (J (a.block / 2)).2 < l + m := by omega
          have hcap := grownCap_ge w (l + m) (c + (J (a.block / 2)).2) T
          have holds : ∀ j v, ((cs.take (l * i.size)).map (ren J))[j]? = some v → w.cell? ((renA J a).add j) = some v := by
            intro j v hv
            rw [hra, Addr.add_lit]
            unfold World.cell?
            simp only [hcell]
            rw [List.map_take, List.getElem?_take] at hv
            split at hv
            · rename_i hj
              simp only [Option.isSome_none, Bool.false_eq_true, if_false, Nat.zero_add, List.getElem?_toArray]
              rw [List.getElem?_append_left (by simp; omega)]
              exact hv
            · cases hv
          have hrun := run_append_grow (P := C.P) w t ty T i zv ht hi hzv (renA J a) l (c + (J (a.block / 2)).2) ((cs.take (l * i.size)).map (ren J)) (by simp; omega) holds (renA J b) m (d + (dec J b.block).2) (new.map (ren J)) hnl hnews hlt' (by omega)
            (growslice_fits hlt' hb)
          have hst := (hs.drew).alloc (T := T) (sz := i.size) hcs' (ex := grownCap w (l + m) (c + (J (a.block / 2)).2) T - (l + m)) (tail := (Builtin.zeroCells zv.cells (grownCap w (l + m) (c + (J (a.block / 2)).2) T - (l + m))).toList) (htail _)
          have hst' := hst.weak (H' := hset n (.cells (cs.take (l * i.size) ++ new) T i.size) (hset (a.block / 2) .dead H)) (fun j hj => by
            by_cases h1 : j = n
            · subst h1; right; simp
            · rw [hset_ne h1, hset_ne h1]
              by_cases h2 : j = a.block / 2
              · subst h2; left; simp
              · right; rw [hset_ne h2])
          refine ⟨_, n + 1, _, _, _, ?_, hst', by omega, fun j hj => by rw [jset_ne (by omega)], by simp [appK.new_], h⟩
          rw [hdec, hrun]
          simp only [appK.new_, renV_slice, dec_new, jset_same]
          congr 1
          · congr 1; omega
          · rw [arr_app3]; rfl
    · cases hr
  · cases hr
end Go.Aw
