/-
  The abstract machine, part 15: results without traces: a call whose result is flat leaves the heap's description as it was; a list that a call makes is one new object.
-/
import Derived.Test.YtmgadjflgiokeaaAw14
set_option linter.unusedSimpArgs false
set_option linter.unusedVariables false
namespace Go.Aw
open Go.RowKit

/-- What is to be shown of a result x of a call that leaves old objects alone. -/
def Res (n : Nat) (H : Heap) (K : Value → Nat → Heap → Prop) (x : Value) : Prop := ∀ n' H', n ≤ n' → (∀ i, i < n → H' i = H i) → K x n' H'
section
variable {n n1 n0 : Nat} {H H1 H0 : Heap} {K : Value → Nat → Heap → Prop} {x y : Value}
theorem Res.of (hk : Res n H K x) (e : x = y) : Res n H K y := e ▸ hk
theorem Res.fin (hk : Res n H K x) (e : x = y) (h1 : n ≤ n1) (h2 : ∀ i, i < n → H1 i = H i) : Fin n0 K y n1 H1 := Fin_id (e ▸ hk n1 H1 h1 h2)
/-- A flat result, and the heap as it was. -/
theorem Fin.ret (hU : ∀ i, i < n0 → (H0 i).und n0) (hk : K x n0 H0) (hu : Und n0 y) (e : x = y) (hn : n0 ≤ n) (hH : ∀ i, i < n0 → H i = H0 i) : Fin n0 K y n H := Fin.same hU hu hn hH (e ▸ hk)
theorem St.restrict {C : Ctx} {m : Nat} {J J' : Nat → Nat × Nat} {w w' : World} (hs : St C n J H w) (hs' : St C m J' H1 w') (hm : n ≤ m) (hH : ∀ i, i < n → H1 i = H i) : St C n J' H w' := by
  refine ⟨hs'.below, fun i hi => hs'.lo i (by omega), fun i hi => ?_, fun i j hi hj hij hli hlj => hs'.inj i j (by omega) (by omega) hij (by rw [hH i hi]; exact hli) (by rw [hH j hj]; exact hlj)⟩
  have h1 := hs.obj i hi
  have h2 := hs'.obj i (by omega)
  rw [hH i hi] at h2
  revert h1 h2
  cases H i with
  | dead => exact fun _ _ => trivial
  | cells cs T sz => exact fun h1 h2 => ⟨h1.1, h2.2⟩
/-- A call with a flat result. -/
theorem ACall.same {C : Ctx} {f : FuncId} {args : List Value} (h : ACall C f args (fun r n' H' => r = x ∧ n ≤ n' ∧ ∀ i, i < n → H' i = H i) n H) (hx : Und n x) (hk : K x n H) : ACall C f args K n H := by
  intro J w hs hu
  refine (h J w hs hu).mono ?_
  rintro e w' ⟨n', J', r, H', rfl, h1, h2, h3, h4, rfl, h5, h6⟩
  exact ⟨n, J', r, H, rfl, St.restrict hs h1 h5 h6, Nat.le_refl _, h3, hx, hk⟩
theorem ACall.res {C : Ctx} {f : FuncId} {args : List Value} (h : ∀ K', Res n H K' x → ACall C f args K' n H) (hx : Und n x) (hk : K x n H) : ACall C f args K n H :=
  ACall.same (h _ fun n' H' h1 h2 => ⟨rfl, h1, h2⟩) hx hk

/-- A list that was made: nil, or a new object. -/
inductive Made {α : Type} (n : Nat) (H : Heap) (T sz : Nat) (f : α → List Value) (xs : List α) : Value → Nat → Heap → Prop
  | nil : xs = [] → Made n H T sz f xs (.slice none 0 0) n H
  | one : Made n H T sz f xs (.slice (some ⟨new n, 0, none⟩) xs.length xs.length) (n + 1) (hset n (.cells (xs.flatMap f) T sz) H)
theorem Made.own {α : Type} {C : Ctx} {T sz : Nat} {f : α → List Value} {xs : List α} {v : Value} {n' : Nat} {H' : Heap} (h : Made n H T sz f xs v n' H') (hp : 0 < sz) (hf : ∀ x ∈ xs, (f x).length = sz) :
    n ≤ n' ∧ n' ≤ n + 1 ∧ (∀ i, i < n → H' i = H i) ∧ ∃ E, (∀ i, E i → i = n ∧ i < n') ∧ OwR C H' n' E T sz f v xs := by
  cases h with
  | nil h =>
    subst h
    exact ⟨Nat.le_refl _, by omega, fun _ _ => rfl, fun _ => False, fun _ h => h.elim, OwR.nil hp⟩
  | one => exact ⟨by omega, by omega, fun i hi => hset_ne (by omega) _ _, (· = n), fun i hi => ⟨hi, by omega⟩, OwR.lit hp hf (by omega) (hset_same _ _ _) rfl rfl⟩
theorem ACall.made {α : Type} {C : Ctx} {f : FuncId} {args : List Value} {T sz : Nat} {g : α → List Value} {xs : List α} (hfl : ∀ x ∈ xs, ∀ v ∈ g x, flat v = true)
    (h : ACall C f args (fun r n' H' => n ≤ n' ∧ (∀ i, i < n → H' i = H i) ∧ ∃ E, (∀ i, E i → n ≤ i) ∧ OwR C H' n' E T sz g r xs) n H)
    (hk : ∀ v n' H', Made n H T sz g xs v n' H' → K v n' H') : ACall C f args K n H := by
  intro J w hs hu
  refine (h J w hs hu).mono ?_
  rintro e w' ⟨n', J', r, H', rfl, h1, h2, h3, h4, h5, h6, E, h7, h8⟩
  have hr := St.restrict hs h1 h5 h6
  rcases h8.shape with ⟨rfl, rfl, hD⟩ | ⟨j, c, cs, rfl, g2, g3, g4, g5, g6, g7⟩
  · exact ⟨n, J', _, H, rfl, hr, Nat.le_refl _, h3, by simp, hk _ _ _ (.nil rfl)⟩
  · have hj : n ≤ j := h7 j ((g5 j).2 rfl)
    have ho := h1.obj j g4
    rw [g6] at ho
    obtain ⟨hcu, tail, htl, hcell⟩ := ho
    have hlen := OwR.flat_len h8.flen
    have hflat : ∀ v ∈ xs.flatMap g, flat v = true := fun v hv => by
      obtain ⟨x, hx, hv⟩ := List.mem_flatMap.1 hv
      exact hfl x hx v hv
    have hle : xs.length * sz ≤ c * sz := Nat.mul_le_mul_right _ g2
    refine ⟨n + 1, jset n ((J' j).1, (J' j).2 + (c - xs.length)) J', _, _, ?_, ?_, by omega, fun i hi => by rw [jset_ne (by omega)]; exact h3 i hi, ?_, hk _ _ _ .one⟩
    · simp only [renV_slice, dec_new, jset_same]
      congr 2
      omega
    · refine ⟨hr.below, fun i hi => ?_, fun i hi => ?_, fun a b ha hb hab hla hlb => ?_⟩
      · by_cases e : i = n
        · subst e; simpa using h1.lo j g4
        · rw [jset_ne e]; exact hr.lo i (by omega)
      · by_cases e : i = n
        · subst e
          simp only [hset_same, jset_same]
          refine ⟨fun v hv J1 J2 _ => by rw [ren, ren, flat_ren (hflat v hv), flat_ren (hflat v hv)], (cs.drop (xs.length * sz)).map (ren J') ++ tail, ?_, ?_⟩
          · rw [List.length_append, List.length_map, List.length_drop, htl, ← g3, Nat.add_mul, Nat.sub_mul]; omega
          · rw [hcell]
            have e1 : (xs.flatMap g).map (ren (jset i ((J' j).1, (J' j).2 + (c - xs.length)) J')) = (xs.flatMap g).map (ren J') := List.map_congr_left fun v hv => by rw [ren, ren, flat_ren (hflat v hv), flat_ren (hflat v hv)]
            rw [e1, ← g7, ← List.append_assoc, ← List.map_append, List.take_append_drop]
        · rw [hset_ne e, jset_ne e]
          exact (hr.obj i (by omega)).keep (by omega) (fun k hk => by rw [jset_ne (by omega)]) (fun _ => rfl)
      · have hlive : (H' j).live := by rw [g6]; trivial
        by_cases e1 : a = n
        · subst e1
          rw [jset_same, jset_ne (by omega)]
          rw [hset_ne (by omega)] at hlb
          exact h1.inj j b g4 (by omega) (by omega) hlive (by rw [h6 b (by omega)]; exact hlb)
        · by_cases e2 : b = n
          · subst e2
            rw [jset_same, jset_ne e1]
            rw [hset_ne e1] at hla
            exact h1.inj a j (by omega) g4 (by omega) (by rw [h6 a (by omega)]; exact hla) hlive
          · rw [jset_ne e1, jset_ne e2]
            rw [hset_ne e1] at hla
            rw [hset_ne e2] at hlb
            exact hr.inj a b (by omega) (by omega) hab hla hlb
    · rw [und_slice_new]; omega
end
theorem drop_at {α : Type} [Inhabited α] {l : List α} {j : Nat} (h : j < l.length) : l.drop j = at_ l (j : Int) :: l.drop (j + 1) := by
  rw [at_nat h]; exact List.drop_eq_getElem_cons h
theorem take_next {α : Type} [Inhabited α] {L : List α} {j : Nat} (h : j < L.length) : L.take (j + 1) = L.take j ++ [at_ L (j : Int)] := by
  rw [List.take_succ_eq_append_getElem h, at_nat h]
theorem at_map {α β : Type} [Inhabited α] [Inhabited β] {l : List α} {f : α → β} {j : Nat} (h : j < l.length) : at_ (l.map f) (j : Int) = f (at_ l (j : Int)) := by
  rw [at_nat h, at_nat (by simpa using h)]; simp
theorem at_mem {α : Type} [Inhabited α] {l : List α} {j : Nat} (h : j < l.length) : at_ l (j : Int) ∈ l := by rw [at_nat h]; exact List.getElem_mem _
end Go.Aw
