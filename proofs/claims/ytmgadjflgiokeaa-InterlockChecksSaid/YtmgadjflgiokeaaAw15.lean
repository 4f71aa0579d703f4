/-
  The abstract machine, part 15: results without traces: a call whose result is flat leaves the heap's description as it was; a list that a call makes is one new object.
-/
import Derived.Test.YtmgadjflgiokeaaAw14
set_option linter.unusedSimpArgs false
set_option linter.unusedVariables false
namespace Go.Aw
open Go.RowKit

/-- What is to be shown of a result x of a call that leaves old objects alone. -/
def Res (n : Nat) (H : Heap) (K : Value → Nat → Heap → Prop) (x : Value) : Prop := ∀ n' H', n ≤ n' → (∀ i, i < n → H' i = H i) → K x n' H'
section
variable {n n1 n0 : Nat} {H H1 H0 : Heap} {K : Value → Nat → Heap → Prop} {x y : Value}
theorem Res.of (hk : Res n H K x) (e : x = y) : Res n H K y := e ▸ hk
theorem Res.fin (hk : Res n H K x) (e : x = y) (h1 : n ≤ n1) (h2 : ∀ i, i < n → H1 i = H i) : Fin n0 K y n1 H1 := Fin_id (e ▸ hk n1 H1 h1 h2)
/-- A flat result, and the heap as it was. -/
theorem Fin.ret (hU : ∀ i, i < n0 → (H0 i).und n0) (hk : K x n0 H0) (hu : Und n0 y) (e : x = y) (hn : n0 ≤ n) (hH : ∀ i, i < n0 → H i = H0 i) : Fin n0 K y n H := Fin.same hU hu hn hH (e ▸ hk)
theorem St.restrict {C : Ctx} {m : Nat} {J J' : Nat → Nat × Nat} {w w' : World} (hs : St C n J H w) (hs' : St C m J' H1 w') (hm : n ≤ m) (hH : ∀ i, i < n → H1 i = H i) : St C n J' H w' := by
  refine ⟨hs'.below, hs'.drw, fun i hi => hs'.lo i (by omega), fun i hi => ?_, fun i j hi hj hij hli hlj => hs'.inj i j (by omega) (by omega) hij (by rw [hH i hi]; exact hli) (by rw [hH j hj]; exact hlj)⟩
  have h1 := hs.obj i hi
  have h2 := hs'.obj i (by omega)
  rw [hH i hi] at h2
  revert h1 h2
  cases H i with
  | dead => exact fun _ _ => trivial
  | tight => exact fun _ h2 => h2
  | cells cs T sz => exact fun h1 h2 => ⟨h1.1, h2.2⟩
  | fixed cs T sz => exact fun h1 h2 => ⟨h1.1, h2.2⟩
  | map es clock => exact fun h1 h2 => ⟨h1.1, h2.2⟩
  | iter q since seen last => exact fun h1 h2 => ⟨h1.1, h2.2⟩
/-- A call with a flat result. -/
theorem ACall.same {C : Ctx} {f : FuncId} {args : List Value} (h : ACall C f args (fun r n' H' => r = x ∧ n ≤ n' ∧ ∀ i, i < n → H' i = H i) n H) (hx : Und n x) (hk : K x n H) : ACall C f args K n H := by
  intro J w hs hu
  refine (h J w hs hu).mono ?_
  rintro e w' ⟨n', J', r, H', rfl, h1, h2, h3, h4, rfl, h5, h6⟩
  exact ⟨n, J', r, H, rfl, St.restrict hs h1 h5 h6, Nat.le_refl _, h3, hx, hk⟩
theorem ACall.res {C : Ctx} {f : FuncId} {args : List Value} (h : ∀ K', Res n H K' x → ACall C f args K' n H) (hx : Und n x) (hk : K x n H) : ACall C f args K n H :=
  ACall.same (h _ fun n' H' h1 h2 => ⟨rfl, h1, h2⟩) hx hk

/-- A list that was made: nil, or a new object. -/
inductive Made {α : Type} (n : Nat) (H : Heap) (T sz : Nat) (f : α → List Value) (xs : List α) : Value → Nat → Heap → Prop
  | nil : xs = [] → Made n H T sz f xs (.slice none 0 0) n H
  | one : Made n H T sz f xs (.slice (some ⟨new n, 0, none⟩) xs.length xs.length) (n + 1) (hset n (.cells (xs.flatMap f) T sz) H)
theorem Made.own {α : Type} {C : Ctx} {T sz : Nat} {f : α → List Value} {xs : List α} {v : Value} {n' : Nat} {H' : Heap} (h : Made n H T sz f xs v n' H') (hp : 0 < sz) (hf : ∀ x ∈ xs, (f x).length = sz) :
    n ≤ n' ∧ n' ≤ n + 1 ∧ (∀ i, i < n → H' i = H i) ∧ ∃ E, (∀ i, E i → i = n ∧ i < n') ∧ OwR C H' n' E T sz f v xs := by
  cases h with
  | nil h =>
    subst h
    exact ⟨Nat.le_refl _, by omega, fun _ _ => rfl, fun _ => False, fun _ h => h.elim, OwR.nil hp⟩
  | one => exact ⟨by omega, by omega, fun i hi => hset_ne (by omega) _ _, (· = n), fun i hi => ⟨hi, by omega⟩, OwR.lit hp hf (by omega) (hset_same _ _ _) rfl rfl⟩
theorem ACall.made {α : Type} {C : Ctx} {f : FuncId} {args : List Value} {T sz : Nat} {g : α → List Value} {xs : List α} (hfl : ∀ x ∈ xs, ∀ v ∈ g x, flat v = true)
    (h : ACall C f args (fun r n' H' => n ≤ n' ∧ (∀ i, i < n → H' i = H i) ∧ ∃ E, (∀ i, E i → n ≤ i) ∧ OwR C H' n' E T sz g r xs) n H)
    (hk : ∀ v n' H', Made n H T sz g xs v n' H' → K v n' H') : ACall C f args K n H := by
  intro J w hs hu
  refine (h J w hs hu).mono ?_
  rintro e w' ⟨n', J', r, H', rfl, h1, h2, h3, h4, h5, h6, E, h7, h8⟩
  have hr := St.restrict hs h1 h5 h6
  rcases h8.shape with ⟨rfl, rfl, hD⟩ | ⟨j, c, cs, rfl, g2, g3, g4, g5, g6, g7⟩
  · exact ⟨n, J', _, H, rfl, hr, Nat.le_refl _, h3, by simp, hk _ _ _ (.nil rfl)⟩
  · have hj : n ≤ j := h7 j ((g5 j).2 rfl)
    have ho := h1.obj j g4
    rw [g6] at ho
    obtain ⟨hcu, tail, htl, hcell⟩ := ho
    have hlen := OwR.flat_len h8.flen
    have hflat : ∀ v ∈ xs.flatMap g, flat v = true := fun v hv => by
      obtain ⟨x, hx, hv⟩ := List.mem_flatMap.1 hv
      exact hfl x hx v hv
    have hle : xs.length * sz ≤ c * sz := Nat.mul_le_mul_right _ g2
    refine ⟨n + 1, jset n ((J' j).1, (J' j).2 + (c - xs.length)) J', _, _, ?_, ?_, by omega, fun i hi => by rw [jset_ne (by omega)]; exact h3 i hi, ?_, hk _ _ _ .one⟩
    · simp only [renV_slice, dec_new, jset_same]
      congr 2
      omega
    · refine ⟨hr.below, hr.drw, fun i hi => ?_, fun i hi => ?_, fun a b ha hb hab hla hlb => ?_⟩
      · by_cases e : i = n
        · subst e; simpa using h1.lo j g4
        · rw [jset_ne e]; exact hr.lo i (by omega)
      · by_cases e : i = n
        · subst e
          simp only [hset_same, jset_same]
          refine ⟨fun v hv J1 J2 _ => by rw [ren, ren, flat_ren (hflat v hv), flat_ren (hflat v hv)], (cs.drop (xs.length * sz)).map (ren J') ++ tail, ?_, ?_⟩
          · rw [List.length_append, List.length_map, List.length_drop, htl, ← g3, Nat.add_mul, Nat.sub_mul]; omega
          · rw [hcell]
            have e1 : (xs.flatMap g).map (ren (jset i ((J' j).1, (J' j).2 + (c - xs.length)) J')) = (xs.flatMap g).map (ren J') := List.map_congr_left fun v hv => by rw [ren, ren, flat_ren (hflat v hv), flat_ren (hflat v hv)]
            rw [e1, ← g7, ← List.append_assoc, ← List.map_append, List.take_append_drop]
        · rw [hset_ne e, jset_ne e]
          exact (hr.obj i (by omega)).keep (by omega) (fun k hk => by rw [jset_ne (by omega)]) (fun _ => rfl)
      · have hlive : (H' j).live := by rw [g6]; trivial
        by_cases e1 : a = n
        · subst e1
          rw [jset_same, jset_ne (by omega)]
          rw [hset_ne (by omega)] at hlb
          exact h1.inj j b g4 (by omega) (by omega) hlive (by rw [h6 b (by omega)]; exact hlb)
        · by_cases e2 : b = n
          · subst e2
            rw [jset_same, jset_ne e1]
            rw [hset_ne e1] at hla
            exact h1.inj a j (by omega) g4 (by omega) (by rw [h6 a (by omega)]; exact hla) hlive
          · rw [jset_ne e1, jset_ne e2]
            rw [hset_ne e1] at hla
            rw [hset_ne e2] at hlb
            exact hr.inj a b (by omega) (by omega) hab hla hlb
    · rw [und_slice_new]; omega
end
/-! ### Cells of an own slice are written -/
theorem setN_get : ∀ (l cs : List Value) (i k : Nat), i + l.length ≤ cs.length → (setN cs i l)[k]? = if i ≤ k ∧ k < i + l.length then l[k - i]? else cs[k]?
  | [], cs, i, k, _ => by simp only [setN, List.length_nil]; rw [if_neg (by omega)]
  | v :: r, cs, i, k, h => by
    simp only [List.length_cons] at h
    simp only [setN, List.length_cons]
    rw [setN_get r (cs.set i v) (i + 1) k (by simp; omega)]
    by_cases h1 : i + 1 ≤ k ∧ k < i + 1 + r.length
    · rw [if_pos h1, if_pos (by omega)]
      have : k - i = (k - (i + 1)) + 1 := by omega
      rw [this]; simp
    · rw [if_neg h1]
      by_cases h2 : k = i
      · subst h2
        rw [if_pos (by omega), List.getElem?_set_self (by omega)]
        simp
      · rw [if_neg (by omega), List.getElem?_set_ne (by omega)]
theorem OwR.flat_len2 {α : Type} {f : α → List Value} {sz : Nat} {l : List α} (h : ∀ x ∈ l, (f x).length = sz) : (l.flatMap f).length = l.length * sz := OwR.flat_len h
theorem flat_cell {α : Type} {f : α → List Value} {sz : Nat} (hp : 0 < sz) {l : List α} (h : ∀ x ∈ l, (f x).length = sz) (k : Nat) (hk : k < l.length * sz) : (l.flatMap f)[k]? = (f (l[k / sz]'((Nat.div_lt_iff_lt_mul hp).2 hk)))[k % sz]? := by
  have h1 := OwR.flat_get h (k / sz) ((Nat.div_lt_iff_lt_mul hp).2 hk) (k % sz) (Nat.mod_lt _ hp)
  rw [← h1]
  congr 1
  have := Nat.div_add_mod k sz
  rw [Nat.mul_comm] at this
  omega
theorem OwR.store {α : Type} [Inhabited α] {C : Ctx} {H : Heap} {n : Nat} {D : Nat → Prop} {T sz : Nat} {f : α → List Value} {v : Value} {xs : List α} (h : OwR C H n D T sz f v xs) {t s off : Nat} {b : Bool} (hs : shp C.P t = some (b, s))
    {z : Int} (h0 : 0 ≤ z) (h1 : z < xs.length) {u : Value} (hu : u.cells.toList.length = s) (hone : oneAll u.cells.toList = true) (hoff : off + s ≤ sz) (y : α) (hy : f y = setN (f (at_ xs z)) off u.cells.toList) {k : Heap → Prop}
    (hk : ∀ H', (∀ i, ¬ D i → H' i = H i) → OwR C H' n D T sz f v (xs.set z.toNat y) → k H') : optK (storeA C H t ((ptr v sz z).add off) u) k := by
  have hz : z.toNat < xs.length := by omega
  rcases h.shape with ⟨_, rfl, _⟩ | ⟨j, c, cs, rfl, h2, h3, h4, h5, h6, h7⟩
  · simp at hz
  · have hfl := OwR.flat_len h.flen
    have hle : xs.length * sz ≤ cs.length := by rw [← h3]; exact Nat.mul_le_mul_right _ h2
    have hzs : z.toNat * sz + sz ≤ xs.length * sz := by
      have : (z.toNat + 1) * sz ≤ xs.length * sz := Nat.mul_le_mul_right _ (by omega)
      rwa [Nat.add_mul, Nat.one_mul] at this
    have ha : (ptr (.slice (some ⟨new j, 0, none⟩) xs.length c) sz z).add off = ⟨new j, z.toNat * sz + off, none⟩ := by
      simp only [ptr]
      rw [Addr.add_add, Addr.add_lit, Nat.zero_add]
    rw [ha, store_new, hs]
    have hsz : u.cells.size = s := by simpa using hu
    simp only [hsz, hone, and_self, if_true, h6]
    rw [if_pos (by omega), mk_eq, optK_some]
    have hsx : (f (at_ xs z)).length = sz := h.flen _ (by rw [at_lt h0 h1]; exact List.getElem_mem _)
    have hyl : (f y).length = sz := by rw [hy, setN_length, hsx]
    have hflen : ∀ x ∈ xs.set z.toNat y, (f x).length = sz := fun x hx => by
      rcases List.mem_or_eq_of_mem_set hx with hx | hx
      · exact h.flen x hx
      · rw [hx]; exact hyl
    refine hk _ (fun i hi => hset_ne (fun e => hi ((h5 i).2 e)) _ _) ⟨h.pos, hflen, .inr ⟨j, c, _, by rw [List.length_set], by rw [List.length_set]; exact h2, by rw [setN_length]; exact h3, h4, h5, hset_same _ _ _, ?_⟩⟩
    apply List.ext_getElem?
    intro q
    rw [List.length_set, List.getElem?_take]
    have hfl2 := OwR.flat_len hflen
    rw [List.length_set] at hfl2
    by_cases hq : q < xs.length * sz
    · rw [if_pos hq, setN_get _ _ _ _ (by omega), flat_cell h.pos hflen q (by rw [List.length_set]; exact hq)]
      have hdm : q / sz * sz + q % sz = q := by rw [Nat.mul_comm]; exact Nat.div_add_mod q sz
      have hml := Nat.mod_lt q h.pos
      rw [List.getElem_set]
      by_cases hqz : z.toNat = q / sz
      · rw [if_pos hqz, hy, setN_get _ _ _ _ (by omega), hu]
        rw [← hqz] at hdm
        by_cases hr : off ≤ q % sz ∧ q % sz < off + s
        · rw [if_pos (by omega), if_pos hr]; congr 1; omega
        · rw [if_neg (by omega), if_neg hr]
          have h8 := flat_cell h.pos h.flen q hq
          rw [← h7, List.getElem?_take, if_pos hq] at h8
          rw [h8, at_lt h0 h1]
          congr 3
          exact hqz.symm
      · rw [if_neg hqz, if_neg]
        · have h8 := flat_cell h.pos h.flen q hq
          rw [← h7, List.getElem?_take, if_pos hq] at h8
          exact h8
        · intro hc
          apply hqz
          have h9 : z.toNat * sz ≤ q := by omega
          have h10 : q < (z.toNat + 1) * sz := by rw [Nat.add_mul, Nat.one_mul]; omega
          have h11 := (Nat.le_div_iff_mul_le h.pos).2 h9
          have h12 := (Nat.div_lt_iff_lt_mul h.pos).2 h10
          omega
    · rw [if_neg hq, List.getElem?_eq_none (by omega)]
/-- A whole element is written. -/
theorem OwR.store0 {α : Type} [Inhabited α] {C : Ctx} {H : Heap} {n : Nat} {D : Nat → Prop} {T sz : Nat} {f : α → List Value} {v : Value} {xs : List α} (h : OwR C H n D T sz f v xs) {t : Nat} {b : Bool} (hs : shp C.P t = some (b, sz))
    {z : Int} (h0 : 0 ≤ z) (h1 : z < xs.length) {u : Value} (y : α) (hu : f y = u.cells.toList) (hyl : (f y).length = sz) (hone : oneAll u.cells.toList = true) {k : Heap → Prop}
    (hk : ∀ H', (∀ i, ¬ D i → H' i = H i) → OwR C H' n D T sz f v (xs.set z.toNat y) → k H') : optK (storeA C H t (ptr v sz z) u) k := by
  have hsx : (f (at_ xs z)).length = sz := h.flen _ (by rw [at_lt h0 h1]; exact List.getElem_mem _)
  refine h.store hs h0 h1 (off := 0) (by rw [← hu]; exact hyl) hone (by omega) y ?_ hk
  apply List.ext_getElem?
  intro q
  rw [setN_get _ _ _ _ (by rw [← hu, hyl, hsx]; omega), ← hu, hyl]
  by_cases hq : q < sz
  · rw [if_pos (by omega)]; simp
  · rw [if_neg (by omega), List.getElem?_eq_none (by omega), List.getElem?_eq_none (by omega)]
theorem drop_at {α : Type} [Inhabited α] {l : List α} {j : Nat} (h : j < l.length) : l.drop j = at_ l (j : Int) :: l.drop (j + 1) := by
  rw [at_nat h]; exact List.drop_eq_getElem_cons h
theorem take_next {α : Type} [Inhabited α] {L : List α} {j : Nat} (h : j < L.length) : L.take (j + 1) = L.take j ++ [at_ L (j : Int)] := by
  rw [List.take_succ_eq_append_getElem h, at_nat h]
theorem at_map {α β : Type} [Inhabited α] [Inhabited β] {l : List α} {f : α → β} {j : Nat} (h : j < l.length) : at_ (l.map f) (j : Int) = f (at_ l (j : Int)) := by
  rw [at_nat h, at_nat (by simpa using h)]; simp
theorem at_mem {α : Type} [Inhabited α] {l : List α} {j : Nat} (h : j < l.length) : at_ l (j : Int) ∈ l := by rw [at_nat h]; exact List.getElem_mem _
end Go.Aw
