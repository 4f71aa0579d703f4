/-
  The abstract machine, part 18: a call from a world of its own; the library's sort by a function value.
-/
import Derived.Test.YtmppccnafhckoaaAw16
import Derived.Test.YtmppccnafhckoaaAw17
import Derived.Shelf.SlSortCmp.NoneTotal
set_option linter.unusedSimpArgs false
set_option linter.unusedVariables false
namespace Go.Aw
open Go.RowKit

/-! ### A world, seen from outside -/
/-- The world W holds what the abstract heap says, but for the objects of D. -/
def View (C : Ctx) (n : Nat) (J : Nat → Nat × Nat) (H : Heap) (D : Nat → Prop) (W : World) : Prop :=
  ∀ a v, UndA n a → (a.block % 2 = 1 → ¬ D (a.block / 2)) → get C H a = some v → W.cell? (renA J a) = some (ren J v)
/-- An address and a value, as they are named from outside. -/
def trA (J : Nat → Nat × Nat) (a : Addr) : Addr := ⟨old (renA J a).block, a.off, a.spot⟩
def trV (J : Nat → Nat × Nat) (v : Value) : Value := emb (ren J v)
theorem ren_trV (J J' : Nat → Nat × Nat) (v : Value) : ren J' (trV J v) = ren J v := ren_emb _ _
theorem trV_flat {J : Nat → Nat × Nat} {v : Value} (h : flat v = true) : trV J v = v := by
  unfold trV emb; rw [ren, flat_ren h, flat_ren h]
theorem trV_ptr {J : Nat → Nat × Nat} {a : Addr} : trV J (.pointer (some a)) = .pointer (some (trA J a)) := by
  simp [trV, emb, trA, renA]
theorem trA_new {J : Nat → Nat × Nat} {k o : Nat} : trA J ⟨new k, o, none⟩ = ⟨old (J k).1, o, none⟩ := by simp [trA, renA]
theorem trA_add {J : Nat → Nat × Nat} {a : Addr} (k : Nat) : trA J (a.add k) = (trA J a).add k := by
  unfold trA renA Addr.add
  split <;> rfl
theorem get_spot {C : Ctx} {H : Heap} {a : Addr} {v : Value} (h : get C H a = some v) : a.spot = none := by
  unfold get at h
  split at h
  · cases h
  · rename_i hs; simpa using hs
theorem get_even {C : Ctx} {H : Heap} {a : Addr} {v : Value} (h : get C H a = some v) (he : a.block % 2 = 0) : ∃ u, C.w0.cell? ⟨a.block / 2, a.off, none⟩ = some u := by
  have hs := get_spot h
  unfold get at h
  rw [hs] at h
  simp only [Option.isSome_none, Bool.false_eq_true, if_false, he, if_true] at h
  obtain ⟨u, hu, _⟩ := Option.map_eq_some_iff.1 h
  exact ⟨u, hu⟩
theorem get_odd {C : Ctx} {H : Heap} {a : Addr} {v : Value} (h : get C H a = some v) (he : ¬ a.block % 2 = 0) : (H (a.block / 2)).live := by
  have hs := get_spot h
  unfold get at h
  rw [hs] at h
  simp only [Option.isSome_none, Bool.false_eq_true, if_false, he] at h
  revert h
  cases H (a.block / 2) <;> simp [gcell, AObj.live]
section
variable {C : Ctx} {n : Nat} {J : Nat → Nat × Nat} {H G : Heap} {D : Nat → Prop} {W : World}
theorem View.get (hv : View C n J H D W) {a : Addr} {v : Value} (ha : UndA n a) (hd : a.block % 2 = 1 → ¬ D (a.block / 2)) (h : Aw.get C H a = some v) : Aw.get ⟨C.P, W⟩ G (trA J a) = some (trV J v) := by
  have h1 := hv a v ha hd h
  have hs := get_spot h
  have e : trA J a = ⟨old (renA J a).block, a.off, none⟩ := by simp [trA, hs]
  have e2 : renA J a = ⟨(renA J a).block, a.off, none⟩ := by simp [renA, hs]
  rw [e, get_old]
  simp only
  rw [← e2, h1]; rfl
/-- A variable that a function value holds. -/
theorem View.box (hv : View C n J H D W) {m : Nat} (hm : m < n) (hd : ¬ D m) {cs : List Value} {T sz : Nat} (hH : H m = .cells cs T sz) {i : Nat} {v : Value} (hi : cs[i]? = some v) : Aw.get ⟨C.P, W⟩ G ⟨old (J m).1, i, none⟩ = some (trV J v) := by
  have := hv.get (G := G) (a := ⟨new m, i, none⟩) (v := v) (fun _ => by simp only [new_half]; exact hm) (fun _ => by simp only [new_half]; exact hd) (by rw [get_new, hH, gcell_cells]; exact hi)
  rwa [trA_new] at this
theorem View.sl {α : Type} {sz : Nat} {f : α → List Value} {v : Value} {xs : List α} {E : Nat → Prop} (hv : View C n J H D W) (hs : SlR C H E sz f v xs) (hE : ∀ i, E i → i < n ∧ ¬ D i) (hfl : ∀ x ∈ xs, ∀ u ∈ f x, flat u = true) :
    SlR ⟨C.P, W⟩ G (fun _ => False) sz f (trV J v) xs := by
  obtain ⟨A, c, rfl, h1, h2, h3, h4⟩ := hs.shape
  refine ⟨hs.pos, hs.flen, A.map (trA J), c + (A.elim 0 fun a => (dec J a.block).2), ?_, by omega, fun hne => by simpa using h2 hne, fun hn => ?_, fun a ha => ?_⟩
  · cases A with
    | none => simp [trV, emb]
    | some a => simp [trV, emb, trA, renA]
  · have hA : A = none := by simpa using hn
    subst hA
    simpa using h3 rfl
  · obtain ⟨a', rfl, rfl⟩ := Option.map_eq_some_iff.1 ha
    obtain ⟨g1, g2⟩ := h4 a' rfl
    refine ⟨fun ho => ?_, fun i hi => ?_⟩
    · exfalso
      revert ho
      show (old _) % 2 = 1 → False
      rw [old_even]; omega
    · refine getN_mk _ 0 _ (hs.flen _ (List.getElem_mem _)) fun q u hq => ?_
      have h5 := (getN_get _ _ _ (g2 i hi)).2 q u hq
      rw [Nat.zero_add] at h5 ⊢
      have ha : UndA n ((a'.add (i * sz)).add q) := by
        intro ho
        rw [add_block, add_block] at ho ⊢
        exact (hE _ (g1 ho)).1
      have hd : ((a'.add (i * sz)).add q).block % 2 = 1 → ¬ D (((a'.add (i * sz)).add q).block / 2) := by
        intro ho
        rw [add_block, add_block] at ho ⊢
        exact (hE _ (g1 ho)).2
      have := hv.get (G := G) ha hd h5
      rw [trA_add, trA_add, trV_flat (hfl _ (List.getElem_mem hi) u (List.mem_of_getElem? hq))] at this
      exact this
/-- What a world of the program's is, and a world that has grown since. -/
theorem St.view (hs : St C n J H W) : View C n J H D W := fun a v ha _ h => (get_sound hs ha h).1
end
/-- A call of a function of flat values that is told the world alone: it may draw and lay blocks. -/
theorem calls_grow {P : Program} {g : FuncId} {W : World} {args : List Value} {r : Value} (hr : flat r = true) (h : ACall ⟨P, W⟩ g args (fun v _ _ => v = r) 0 (fun _ => .dead)) (hu : ∀ v ∈ args, Und 0 v) :
    Calls P g (args.map (ren fun _ => (0, 0))).toArray W fun e w' => e = .returned r ∧ ∃ q os, w' = Sort.grow (W.drewN q) os := by
  have hst : St ⟨P, W⟩ 0 (fun _ => (0, 0)) (fun _ => .dead) W := ⟨Below.refl _ _, Nat.le_refl _, fun i hi => by omega, fun i hi => by omega, fun i j hi => by omega⟩
  refine (h (fun _ => (0, 0)) W hst hu).mono ?_
  rintro e w' ⟨n', J', v, H', rfl, h2, _, _, _, rfl⟩
  refine ⟨by rw [ren, flat_ren hr], w'.drawn - W.drawn, w'.heap.extract W.heap.size w'.heap.size, ?_⟩
  obtain ⟨ho, ht, hou, hsz, hbl⟩ := h2.below
  have hd := h2.drw
  clear h2
  obtain ⟨heap', tape', drawn', os', output'⟩ := w'
  simp only at hd ho ht hou hsz hbl ⊢
  have hbl' : ∀ k, k < W.heap.size → heap'[k]? = W.heap[k]? := hbl
  have hheap : heap' = W.heap ++ heap'.extract W.heap.size heap'.size := by
    apply Array.ext_getElem?
    intro i
    rw [Array.getElem?_append]
    split
    · rename_i hi; exact hbl' i hi
    · rename_i hi
      rw [Array.getElem?_extract]
      split
      · congr 1; omega
      · rename_i h; rw [Array.getElem?_eq_none (by omega)]
  subst ho ht hou
  have e1 : Sort.grow (W.drewN (drawn' - W.drawn)) (heap'.extract W.heap.size heap'.size) = (⟨W.heap ++ heap'.extract W.heap.size heap'.size, W.tape, W.drawn + (drawn' - W.drawn), W.os, W.output⟩ : World) := rfl
  rw [e1, ← hheap]
  congr 1
  omega
open Go.Proofs in
/-- A library function that puts the cells of an own slice in order, by a function value. -/
theorem ACall.sortedF {α β : Type} [Inhabited α] {C : Ctx} {n : Nat} {H : Heap} {f g : FuncId} {caps : List Value} {enc : α → Value} (hfl : ∀ x, flat (enc x) = true) (cf : α → α → Int) (srt : List α → List α) (hlen : ∀ zs, (srt zs).length = zs.length)
    (hc : ∀ (blk cap : Nat) (zs : List α) (cb : Array Value) (w : World), Sort.Holds enc w blk 0 zs.toArray → blk < w.heap.size → zs.length < 4611686018427387904 → CmpLays1 C.P g cb enc cf blk 0 zs.length w →
      Calls C.P f #[.slice (some ⟨blk, 0, none⟩) zs.length cap, .func (.func g) #[] cb] w fun e w' => e = .returned (.tuple #[]) ∧ ∃ q os, w' = Sort.grow (Sort.putRow enc (Sort.ahead w q) blk 0 (srt zs).toArray) os)
    (hn : ∀ (cb : Array Value) (w : World), Calls C.P f #[.slice none 0 0, .func (.func g) #[] cb] w fun e w' => e = .returned (.tuple #[]) ∧ w' = w) (hs0 : srt [] = [])
    {gs : β → List Value} {h : β → α} {h' : α → β} (hg : ∀ y, gs y = [enc (h y)]) (hg' : ∀ x, h (h' x) = x) {D : Nat → Prop} {T : Nat} {v : Value} {xs : List β} (ho : OwR C H n D T 1 gs v xs) (hl : xs.length < 4611686018427387904)
    (hcmp : ∀ J W, View C n J H D W → (∀ c ∈ caps, Und n c) → ∀ x y : α, ACall ⟨C.P, W⟩ g ([enc x, enc y] ++ caps.map (trV J)) (fun r _ _ => r = .int .i64 (cf x y)) 0 (fun _ => .dead)) {K : Value → Nat → Heap → Prop}
    (hk : ∀ H', (∀ i, ¬ D i → H' i = H i) → OwR C H' n D T 1 gs v ((srt (xs.map h)).map h') → K (.tuple #[]) n H') : ACall C f [v, .func (.func g) #[] caps.toArray] K n H := by
  intro J w hs hu
  have hcu : ∀ c ∈ caps, Und n c := by
    have := (und_func.1 (hu (.func (.func g) #[] caps.toArray) (by simp))).2
    exact fun c hc => this c (by simpa using hc)
  rcases ho.shape with ⟨rfl, rfl, hD⟩ | ⟨j, c, cs, rfl, h2, h3, h4, h5, h6, h7⟩
  · have e0 : ([Value.slice none 0 0, .func (.func g) #[] caps.toArray].map (ren J)).toArray = #[.slice none 0 0, .func (.func g) #[] (caps.map (ren J)).toArray] := by simp
    rw [e0]
    refine (hn _ w).mono ?_
    rintro e w' ⟨rfl, rfl⟩
    refine ⟨n, J, .tuple #[], H, by simp, hs, Nat.le_refl _, fun _ _ => rfl, und_tuple (by simp), hk H (fun _ _ => rfl) ?_⟩
    rw [List.map_nil, hs0]; exact ⟨ho.pos, by simp, .inl ⟨rfl, rfl, hD⟩⟩
  · rw [Nat.mul_one] at h3 h7
    have hobj := hs.obj j h4
    rw [h6] at hobj
    obtain ⟨hcu2, tail, htl, hcell⟩ := hobj
    have hflat : xs.flatMap gs = (xs.map h).map enc := by
      clear ho h2 h3 h7 hl hk hu
      induction xs with
      | nil => rfl
      | cons x r ih => simp [hg, ih]
    have hcs : cs.take xs.length = (xs.map h).map enc := by rw [h7, hflat]
    have hle : xs.length ≤ cs.length := by omega
    have hjb := hs.blk h4 (by rw [h6]; trivial)
    have hH : Sort.Holds enc w (J j).1 0 (xs.map h).toArray := by
      intro k hk'
      simp at hk'
      have e1 : cs[k]? = some (enc (h xs[k])) := by
        have := congrArg (fun l => l[k]?) hcs
        simp only [List.getElem?_take, if_pos hk'] at this
        rw [this]; simp [hk']
      constructor
      · unfold World.cell?
        simp only [hcell, Nat.zero_add, Option.isSome_none, Bool.false_eq_true, if_false, List.getElem?_toArray]
        rw [List.getElem?_append_left (by simp; omega), List.getElem?_map, e1]
        simp [hk', flat_ren (hfl _)]
      · exact hs.free h4 h6 _
    have hC : CmpLays1 C.P g (caps.map (ren J)).toArray enc cf (J j).1 0 (xs.map h).length w := by
      intro m os dk hdk x y
      have hview : View C n J H D (sortWorld enc w (J j).1 0 m dk os) := by
        intro a u ha hd hget
        have hc0 := (get_sound hs ha hget).1
        have hlt : (renA J a).block < w.heap.size := World.block_lt_of_cell? _ _ hc0
        have hne : (renA J a).block ≠ (J j).1 := by
          by_cases hev : a.block % 2 = 0
          · have e1 : (renA J a).block = a.block / 2 := by unfold renA dec; rw [if_pos hev]
            have h8 : a.block / 2 < C.base := by
              obtain ⟨u', hu'⟩ := get_even hget hev
              exact World.block_lt_of_cell? _ _ hu'
            have := hs.lo j h4
            omega
          · have e1 : (renA J a).block = (J (a.block / 2)).1 := by unfold renA dec; rw [if_neg hev]
            rw [e1]
            refine hs.inj _ _ (ha (by omega)) h4 (fun e => hd (by omega) ((h5 _).2 e)) ?_ (by rw [h6]; trivial)
            exact get_odd hget hev
        unfold sortWorld
        rw [Sort.cell?_grow _ _ _ (by simpa using hlt), Sort.cell?_putRow_other _ _ _ _ _ _ (.inl hne)]
        exact hc0
      have hcall := calls_grow (r := .int .i64 (cf x y)) rfl (hcmp J _ hview hcu x y) (by
        intro u hu'
        simp only [List.cons_append, List.nil_append, List.mem_cons, List.mem_map] at hu'
        rcases hu' with rfl | rfl | ⟨c', _, rfl⟩
        · exact fun J1 J2 _ => by rw [ren, ren, flat_ren (hfl x), flat_ren (hfl x)]
        · exact fun J1 J2 _ => by rw [ren, ren, flat_ren (hfl y), flat_ren (hfl y)]
        · exact und_emb _ _)
      have e2 : (([enc x, enc y] ++ caps.map (trV J)).map (ren fun _ => (0, 0))).toArray = #[enc x, enc y] ++ (caps.map (ren J)).toArray := by
        apply Array.ext'
        simp only [List.cons_append, List.nil_append, List.map_cons, List.map_map, flat_ren (hfl _), Array.toList_append]
        have : (ren (fun _ => (0, 0)) ∘ trV J) = ren J := by funext u; exact ren_trV _ _ _
        rw [this]
      rw [e2] at hcall
      exact hcall
    have e0 : ([Value.slice (some ⟨new j, 0, none⟩) xs.length c, .func (.func g) #[] caps.toArray].map (ren J)).toArray = #[.slice (some ⟨(J j).1, 0, none⟩) (xs.map h).length (c + (J j).2), .func (.func g) #[] (caps.map (ren J)).toArray] := by simp
    rw [e0]
    refine (hc (J j).1 (c + (J j).2) (xs.map h) _ w hH hjb (by simpa using hl) hC).mono ?_
    rintro e w' ⟨rfl, q, os, rfl⟩
    have hsl : (srt (xs.map h)).length = xs.length := by rw [hlen]; simp
    have h8 := ((hs.ahead q).putRow (enc := enc) h4 h6 (d := srt (xs.map h)) (by omega) (fun x _ => hfl x)).grow os
    refine ⟨n, J, .tuple #[], _, by simp, h8, Nat.le_refl _, fun _ _ => rfl, und_tuple (by simp), hk _ (fun i hi => hset_ne (fun e => hi ((h5 i).2 e)) _ _) ?_⟩
    have hfl2 : ((srt (xs.map h)).map h').flatMap gs = (srt (xs.map h)).map enc := by
      generalize srt (xs.map h) = l
      induction l with
      | nil => rfl
      | cons x r ih => simp [hg, hg', ih]
    refine ⟨ho.pos, fun x _ => by rw [hg]; rfl, .inr ⟨j, c, _, by rw [List.length_map, hsl], by rw [List.length_map, hsl]; exact h2, ?_, h4, h5, hset_same _ _ _, ?_⟩⟩
    · rw [Nat.mul_one, List.length_append, List.length_map, List.length_drop]; omega
    · rw [Nat.mul_one, List.length_map, hfl2, List.take_append_of_le_length (by simp), List.take_of_length_le (by simp)]
end Go.Aw
