/-
  The abstract machine, part 16: the library's sort, by its contract.
-/
import Derived.Test.YtmgadjflgiokeaaAw15
import Derived.Sort.Grow
set_option linter.unusedSimpArgs false
set_option linter.unusedVariables false
namespace Go.Aw
open Go.RowKit

section
variable {C : Ctx} {n : Nat} {J : Nat → Nat × Nat} {H : Heap} {w : World}
theorem St.alloc0 (hs : St C n J H w) (o : Obj) : St C n J H (w.alloc o) :=
  ⟨hs.below.alloc hs.below.size _, hs.drw, hs.lo, fun i hi => (hs.obj i hi).keep (Nat.le_refl _) (fun _ _ => rfl) (fun hl => Below.heap_alloc w _ _ (hs.blk hi hl)), hs.inj⟩
theorem St.ahead (hs : St C n J H w) : ∀ q, St C n J H (Sort.ahead w q)
  | 0 => hs
  | q + 1 => (St.ahead hs q).drew
theorem St.grow (hs : St C n J H w) (os : Array Obj) : St C n J H (Sort.grow w os) := by
  obtain ⟨l⟩ := os
  induction l generalizing w with
  | nil => rw [show (⟨[]⟩ : Array Obj) = #[] from rfl, Sort.grow_empty]; exact hs
  | cons o r ih =>
    have e : Sort.grow w ⟨o :: r⟩ = Sort.grow (w.alloc o) ⟨r⟩ := by
      rw [Sort.alloc_eq_grow, Sort.grow_grow]
      congr 1
      apply Array.ext'; simp
    rw [e]
    exact ih (hs.alloc0 o)
theorem putCells_list {α : Type} [Inhabited α] (enc : α → Value) (d : List α) (L : List Value) (hd : d.length ≤ L.length) : Sort.putCells enc 0 d.toArray L.toArray = (d.map enc ++ L.drop d.length).toArray := by
  apply Array.ext'
  apply List.ext_getElem?
  intro k
  simp only [Sort.putCells, List.mapIdx_toArray, List.getElem?_mapIdx]
  by_cases hk : k < d.length
  · rw [List.getElem?_append_left (by simpa using hk), List.getElem?_eq_getElem (by omega)]
    simp [hk]
  · rw [List.getElem?_append_right (by simp; omega), List.getElem?_drop, List.length_map, show d.length + (k - d.length) = k by omega]
    cases L[k]? with
    | none => rfl
    | some x =>
      simp only [Option.map_some]
      rw [if_neg (by simp; omega)]
theorem St.putRow {α : Type} [Inhabited α] {enc : α → Value} (hs : St C n J H w) {i : Nat} (hi : i < n) {cs : List Value} {T sz : Nat} (hH : H i = .cells cs T sz) {d : List α} (hd : d.length ≤ cs.length) (hfl : ∀ x ∈ d, flat (enc x) = true) :
    St C n J (hset i (.cells (d.map enc ++ cs.drop d.length) T sz) H) (Sort.putRow enc w (J i).1 0 d.toArray) := by
  have ho := hs.obj i hi
  rw [hH] at ho
  obtain ⟨hu, tail, ht, hc⟩ := ho
  have h1 := hs.row hi hH (cs' := d.map enc ++ cs.drop d.length) (tail := tail) (fun v hv => by
    rcases List.mem_append.1 hv with hv | hv
    · obtain ⟨x, hx, rfl⟩ := List.mem_map.1 hv
      exact fun J J' _ => by rw [ren, ren, flat_ren (hfl x hx), flat_ren (hfl x hx)]
    · exact hu v (List.mem_of_mem_drop hv)) ht
  have e : Sort.putRow enc w (J i).1 0 d.toArray = w.setRow (J i).1 ((d.map enc ++ cs.drop d.length).map (ren J) ++ tail).toArray := by
    unfold Sort.putRow
    rw [Sort.mapBlock_congr w (J i).1 _ (fun _ => ((d.map enc ++ cs.drop d.length).map (ren J) ++ tail).toArray) (fun c e fr hce => ?_)]
    · rfl
    · rw [hc] at hce
      simp only [Option.some.injEq, Obj.cells.injEq] at hce
      obtain ⟨rfl, _, _⟩ := hce
      have hren : (d.map enc).map (ren J) = d.map enc := by
        rw [List.map_map]
        exact List.map_congr_left fun x hx => flat_ren (hfl x hx) _
      have e2 : (d.map enc ++ cs.drop d.length).map (ren J) ++ tail = d.map enc ++ (cs.map (ren J) ++ tail).drop d.length := by
        rw [List.map_append, hren, List.append_assoc, List.drop_append_of_le_length (by simpa using hd), List.map_drop]
      rw [e2]
      exact putCells_list enc d _ (by simp; omega)
  rw [e]
  exact h1
/-- A library function that puts the cells of a slice in order. -/
theorem ACall.sorted {α β : Type} [Inhabited α] {f : FuncId} {enc : α → Value} (hfl : ∀ x, flat (enc x) = true) (srt : List α → List α) (hlen : ∀ zs, (srt zs).length = zs.length)
    (hc : ∀ (blk cap : Nat) (zs : List α) (w : World), Sort.Holds enc w blk 0 zs.toArray → blk < w.heap.size → zs.length < 4611686018427387904 → Calls C.P f #[.slice (some ⟨blk, 0, none⟩) zs.length cap] w fun e w' => e = .returned (.tuple #[]) ∧ ∃ q os, w' = Sort.grow (Sort.putRow enc (Sort.ahead w q) blk 0 (srt zs).toArray) os)
    (hn : ∀ w : World, Calls C.P f #[.slice none 0 0] w fun e w' => e = .returned (.tuple #[]) ∧ ∃ q os, w' = Sort.grow (Sort.ahead w q) os) (hs0 : srt [] = [])
    {g : β → List Value} {h : β → α} {h' : α → β} (hg : ∀ y, g y = [enc (h y)]) (hg' : ∀ x, h (h' x) = x) {D : Nat → Prop} {T : Nat} {v : Value} {xs : List β} (ho : OwR C H n D T 1 g v xs) (hl : xs.length < 4611686018427387904) {K : Value → Nat → Heap → Prop}
    (hk : ∀ H', (∀ i, ¬ D i → H' i = H i) → OwR C H' n D T 1 g v ((srt (xs.map h)).map h') → K (.tuple #[]) n H') : ACall C f [v] K n H := by
  intro J w hs hu
  rcases ho.shape with ⟨rfl, rfl, hD⟩ | ⟨j, c, cs, rfl, h2, h3, h4, h5, h6, h7⟩
  · have e0 : ([Value.slice none 0 0].map (ren J)).toArray = #[.slice none 0 0] := by simp
    rw [e0]
    refine (hn w).mono ?_
    rintro e w' ⟨rfl, q, os, rfl⟩
    refine ⟨n, J, .tuple #[], H, by simp, (hs.ahead q).grow os, Nat.le_refl _, fun _ _ => rfl, und_tuple (by simp), hk H (fun _ _ => rfl) ?_⟩
    rw [List.map_nil, hs0]; exact ⟨ho.pos, by simp, .inl ⟨rfl, rfl, hD⟩⟩
  · rw [Nat.mul_one] at h3 h7
    have hobj := hs.obj j h4
    rw [h6] at hobj
    obtain ⟨hcu, tail, htl, hcell⟩ := hobj
    have hflat : xs.flatMap g = (xs.map h).map enc := by
      clear ho h2 h3 h7 hl hk hu
      induction xs with
      | nil => rfl
      | cons x r ih => simp [hg, ih]
    have hcs : cs.take xs.length = (xs.map h).map enc := by rw [h7, hflat]
    have hle : xs.length ≤ cs.length := by omega
    have hH : Sort.Holds enc w (J j).1 0 (xs.map h).toArray := by
      intro k hk'
      simp at hk'
      have e1 : cs[k]? = some (enc (h xs[k])) := by
        have := congrArg (fun l => l[k]?) hcs
        simp only [List.getElem?_take, if_pos hk'] at this
        rw [this]; simp [hk']
      constructor
      · unfold World.cell?
        simp only [hcell, Nat.zero_add, Option.isSome_none, Bool.false_eq_true, if_false, List.getElem?_toArray]
        rw [List.getElem?_append_left (by simp; omega), List.getElem?_map, e1]
        simp [hk', flat_ren (hfl _)]
      · exact hs.free h4 h6 _
    have e0 : ([Value.slice (some ⟨new j, 0, none⟩) xs.length c].map (ren J)).toArray = #[.slice (some ⟨(J j).1, 0, none⟩) (xs.map h).length (c + (J j).2)] := by simp
    rw [e0]
    refine (hc (J j).1 (c + (J j).2) (xs.map h) w hH (hs.blk h4 (by rw [h6]; trivial)) (by simpa using hl)).mono ?_
    rintro e w' ⟨rfl, q, os, rfl⟩
    have hsl : (srt (xs.map h)).length = xs.length := by rw [hlen]; simp
    have h8 := ((hs.ahead q).putRow (enc := enc) h4 h6 (d := srt (xs.map h)) (by omega) (fun x _ => hfl x)).grow os
    refine ⟨n, J, .tuple #[], _, by simp, h8, Nat.le_refl _, fun _ _ => rfl, und_tuple (by simp), hk _ (fun i hi => hset_ne (fun e => hi ((h5 i).2 e)) _ _) ?_⟩
    have hfl2 : ((srt (xs.map h)).map h').flatMap g = (srt (xs.map h)).map enc := by
      generalize srt (xs.map h) = l
      induction l with
      | nil => rfl
      | cons x r ih => simp [hg, hg', ih]
    refine ⟨ho.pos, fun x _ => by rw [hg]; rfl, .inr ⟨j, c, _, by rw [List.length_map, hsl], by rw [List.length_map, hsl]; exact h2, ?_, h4, h5, hset_same _ _ _, ?_⟩⟩
    · rw [Nat.mul_one, List.length_append, List.length_map, List.length_drop]; omega
    · rw [Nat.mul_one, List.length_map, hfl2, List.take_append_of_le_length (by simp), List.take_of_length_le (by simp)]
end
end Go.Aw
