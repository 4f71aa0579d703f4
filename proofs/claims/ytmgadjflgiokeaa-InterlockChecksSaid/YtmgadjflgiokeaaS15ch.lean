/-
  Chapter 15: the reference's tests, plain.
-/
import Derived.Test.YtmgadjflgiokeaaS15cg
namespace Go.Aw.S15
open Go.RowKit Go.Proofs Go.Aw.Tab
set_option linter.unusedSimpArgs false
set_option linter.unusedVariables false
variable {gs : List Gr} {pts : List Pt} {s : ByteArray}
theorem any_hit {α : Type} [Inhabited α] {p : α → Bool} {l : List α} {q : Nat} (h : q < l.length) (hp : p (at_ l (q : Int)) = true) : l.any p = true := List.any_eq_true.2 ⟨_, at_mem h, hp⟩
theorem any_no {α : Type} [Inhabited α] {p : α → Bool} {l : List α} (h : ∀ q : Nat, q < l.length → p (at_ l (q : Int)) = false) : l.any p = false := List.any_eq_false.2 fun x hx => by
  obtain ⟨q, hq, rfl⟩ := mem_at hx
  rw [h q hq]; simp
theorem many_len (h : (16 : Int) < gs.length) : manyB gs = true := by unfold manyB; rw [decide_eq_true h]; rfl
theorem many_hit {q : Nat} (h : q < gs.length) (hp : (16 : Int) < (at_ gs (q : Int)).ps.length) : manyB gs = true := by
  unfold manyB
  rw [any_hit (p := fun g : Gr => decide ((16 : Int) < g.ps.length)) h (decide_eq_true hp), Bool.or_true]
theorem many_no (h0 : ¬ (16 : Int) < gs.length) (h : ∀ q : Nat, q < gs.length → ¬ (16 : Int) < (at_ gs (q : Int)).ps.length) : manyB gs = false := by
  unfold manyB
  rw [any_no (p := fun g : Gr => decide ((16 : Int) < g.ps.length)) (fun q hq => decide_eq_false (h q hq)), decide_eq_false h0]; rfl
theorem badN_nm {q : Nat} (h : q < gs.length) (hp : nameB (at_ gs (q : Int)).nm = false) : badN gs = true := by
  unfold badN
  rw [any_hit (p := fun g : Gr => !(nameB g.nm)) h (by rw [hp]; rfl), Bool.true_or]
theorem badN_pt {q k : Nat} (h : q < gs.length) (hk : k < (at_ gs (q : Int)).ps.length) (hp : nameB (at_ (at_ gs (q : Int)).ps (k : Int)) = false) : badN gs = true := by
  unfold badN
  rw [any_hit (p := fun g : Gr => g.ps.any fun s => !(nameB s)) h (any_hit (p := fun s => !(nameB s)) hk (by rw [hp]; rfl)), Bool.or_true]
theorem badN_no (h : ∀ q : Nat, q < gs.length → nameB (at_ gs (q : Int)).nm = true ∧ ∀ k : Nat, k < (at_ gs (q : Int)).ps.length → nameB (at_ (at_ gs (q : Int)).ps (k : Int)) = true) : badN gs = false := by
  unfold badN
  rw [any_no (p := fun g : Gr => !(nameB g.nm)) (fun q hq => by rw [(h q hq).1]; rfl), any_no (p := fun g : Gr => g.ps.any fun s => !(nameB s)) (fun q hq => any_no (p := fun s => !(nameB s)) (fun k hk => by rw [(h q hq).2 k hk]; rfl))]; rfl
theorem badD_hit {q : Nat} (h : q < gs.length) (hp : (at_ gs (q : Int)).dd < 0 ∨ 3600 < (at_ gs (q : Int)).dd) : badD gs = true := by
  unfold badD
  refine any_hit (p := fun g : Gr => !(deadB g.dd)) h ?_
  unfold deadB
  rcases hp with h | h
  · rw [decide_eq_false (by omega)]; rfl
  · rw [decide_eq_false (p := _ ≤ (3600 : Int)) (by omega), Bool.and_false]; rfl
theorem badD_no (h : ∀ q : Nat, q < gs.length → 0 ≤ (at_ gs (q : Int)).dd ∧ (at_ gs (q : Int)).dd ≤ 3600) : badD gs = false := by
  unfold badD
  refine any_no (p := fun g : Gr => !(deadB g.dd)) fun q hq => ?_
  unfold deadB
  rw [decide_eq_true (h q hq).1, decide_eq_true (h q hq).2]; rfl
theorem few_hit {q : Nat} (h : q < gs.length) (hp : ((at_ gs (q : Int)).ps.length : Int) < 2) : fewB gs = true :=
  any_hit (p := fun g : Gr => decide ((g.ps.length : Int) < 2)) h (decide_eq_true hp)
theorem few_no (h : ∀ q : Nat, q < gs.length → ¬ ((at_ gs (q : Int)).ps.length : Int) < 2) : fewB gs = false :=
  any_no (p := fun g : Gr => decide ((g.ps.length : Int) < 2)) fun q hq => decide_eq_false (h q hq)
theorem unk_hit {q k : Nat} (h : q < gs.length) (hk : k < (at_ gs (q : Int)).ps.length) (hp : findPt pts (at_ (at_ gs (q : Int)).ps (k : Int)) < 0) : unkB pts gs = true :=
  any_hit (p := fun g : Gr => g.ps.any fun s => decide (findPt pts s < 0)) h (any_hit (p := fun s => decide (findPt pts s < 0)) hk (decide_eq_true hp))
theorem unk_no (h : ∀ q : Nat, q < gs.length → ∀ k : Nat, k < (at_ gs (q : Int)).ps.length → ¬ findPt pts (at_ (at_ gs (q : Int)).ps (k : Int)) < 0) : unkB pts gs = false :=
  any_no (p := fun g : Gr => g.ps.any fun s => decide (findPt pts s < 0)) fun q hq => any_no (p := fun s => decide (findPt pts s < 0)) fun k hk => decide_eq_false (h q hq k hk)
theorem typ_hit {q k : Nat} (h : q < gs.length) (hk : k < (at_ gs (q : Int)).ps.length) (hp : typeBad pts (at_ (at_ gs (q : Int)).ps (k : Int)) = true) : typB pts gs = true :=
  any_hit (p := fun g : Gr => g.ps.any (typeBad pts)) h (any_hit (p := typeBad pts) hk hp)
theorem typ_no (h : ∀ q : Nat, q < gs.length → ∀ k : Nat, k < (at_ gs (q : Int)).ps.length → typeBad pts (at_ (at_ gs (q : Int)).ps (k : Int)) = false) : typB pts gs = false :=
  any_no (p := fun g : Gr => g.ps.any (typeBad pts)) fun q hq => any_no (p := typeBad pts) fun k hk => h q hq k hk
/-- The points ahead of the k-th of group i. -/
def ahead (gs : List Gr) (i k : Nat) : List ByteArray := flatP (gs.take i) ++ (at_ gs (i : Int)).ps.take k
theorem flat_next {i : Nat} (h : i < gs.length) : flatP (gs.take (i + 1)) = flatP (gs.take i) ++ (at_ gs (i : Int)).ps := by
  unfold flatP
  rw [take_next h, List.flatMap_append]; simp
theorem ahead_zero (i : Nat) : ahead gs i 0 = flatP (gs.take i) := by unfold ahead; simp
theorem ahead_end {i : Nat} (h : i < gs.length) : ahead gs i (at_ gs (i : Int)).ps.length = flatP (gs.take (i + 1)) := by unfold ahead; rw [List.take_length, flat_next h]
theorem ahead_next {i k : Nat} (h : k < (at_ gs (i : Int)).ps.length) : ahead gs i (k + 1) = ahead gs i k ++ [at_ (at_ gs (i : Int)).ps (k : Int)] := by
  unfold ahead
  rw [take_next h, List.append_assoc]
theorem ahead_sub {i k : Nat} (h : i < gs.length) : (ahead gs i k).Sublist (flatP gs) := by
  have h1 : (ahead gs i k).Sublist (flatP (gs.take (i + 1))) := by
    rw [flat_next h]; unfold ahead
    exact (List.Sublist.refl _).append (List.take_sublist _ _)
  have h2 : (flatP (gs.take (i + 1))).Sublist (flatP gs) := by
    have e : flatP gs = flatP (gs.take (i + 1)) ++ flatP (gs.drop (i + 1)) := by
      unfold flatP
      rw [← List.flatMap_append, List.take_append_drop]
    rw [e]
    exact List.sublist_append_left _ _
  exact h1.trans h2
theorem flat_mem : ∀ {i : Nat}, i ≤ gs.length → (s ∈ flatP (gs.take i) ↔ ∃ p : Nat, p < i ∧ s ∈ (at_ gs (p : Int)).ps)
  | 0, _ => by simp [flatP]
  | i + 1, h => by
    have ih := flat_mem (i := i) (by omega)
    rw [flat_next (by omega), List.mem_append, ih]
    constructor
    · rintro (⟨p, h1, h2⟩ | h1)
      · exact ⟨p, by omega, h2⟩
      · exact ⟨i, by omega, h1⟩
    · rintro ⟨p, h1, h2⟩
      by_cases e : p < i
      · exact .inl ⟨p, e, h2⟩
      · obtain rfl : p = i := by omega
        exact .inr h2
theorem mem_take_at {l : List ByteArray} {k : Nat} (hk : k ≤ l.length) : s ∈ l.take k ↔ ∃ p : Nat, p < k ∧ at_ l (p : Int) = s := by
  constructor
  · intro h
    obtain ⟨p, hp, e⟩ := List.getElem_of_mem h
    rw [List.length_take] at hp
    refine ⟨p, by omega, ?_⟩
    rw [at_nat (by omega), ← e, List.getElem_take]
  · rintro ⟨p, hp, rfl⟩
    rw [at_nat (by omega)]
    exact List.mem_take_iff_getElem.2 ⟨p, by omega, rfl⟩
/-- A point that is new is found where it stands. -/
theorem find_new {i k : Nat} (hi : i < gs.length) (hk : k < (at_ gs (i : Int)).ps.length) (h : at_ (at_ gs (i : Int)).ps (k : Int) ∉ ahead gs i k) : findG gs (at_ (at_ gs (i : Int)).ps (k : Int)) = ((i : Int), (k : Int), 0) := by
  unfold ahead at h
  rw [List.mem_append, not_or, flat_mem (by omega), mem_take_at (by omega)] at h
  refine findG_hit hi hk rfl (fun p hp e => h.2 ⟨p, hp, e⟩) fun p hp => ?_
  rw [posG_no]
  exact fun hm => h.1 ⟨p, hp, hm⟩
theorem find_old {i k : Nat} (hi : i < gs.length) (hk : k < (at_ gs (i : Int)).ps.length) (h : at_ (at_ gs (i : Int)).ps (k : Int) ∈ ahead gs i k) : ¬ ((findG gs (at_ (at_ gs (i : Int)).ps (k : Int))).1 = (i : Int) ∧ (findG gs (at_ (at_ gs (i : Int)).ps (k : Int))).2.1 = (k : Int)) := by
  obtain ⟨s, hs⟩ : ∃ s, at_ (at_ gs (i : Int)).ps (k : Int) = s := ⟨_, rfl⟩
  rw [hs] at h ⊢
  have hgi : 0 ≤ fidx (posG s) gs := by
    have := fidx_any (posG s) gs
    rw [any_hit (p := posG s) hi (posG_mem.2 (hs ▸ at_mem hk))] at this
    simpa using this
  obtain ⟨q, hq⟩ : ∃ q : Nat, fidx (posG s) gs = (q : Int) := ⟨(fidx (posG s) gs).toNat, by omega⟩
  obtain ⟨g1, g2, g3⟩ := fidx_spec (p := posG s) (xs := gs) (by rw [← fidx_eq]; exact hq)
  unfold findG
  rw [hq, if_neg (by omega)]
  rintro ⟨e1, e2⟩
  dsimp only at e1 e2
  obtain rfl : q = i := by omega
  unfold posS at e2
  rw [fidx_eq] at e2
  obtain ⟨k1, k2, k3⟩ := fidx_spec e2
  unfold ahead at h
  rw [List.mem_append, flat_mem (by omega), mem_take_at (by omega)] at h
  rcases h with ⟨p, h1, h2⟩ | ⟨p, h1, h2⟩
  · exact posG_no.1 (g3 p h1) h2
  · have := k3 p h1
    simp [h2] at this
theorem twice_old {i k : Nat} (hi : i < gs.length) (hk : k < (at_ gs (i : Int)).ps.length) (h : at_ (at_ gs (i : Int)).ps (k : Int) ∈ ahead gs i k) : twiceP gs = true := by
  have hn : ¬ (flatP gs).Nodup := fun hn => by
    have := (ahead_sub (k := k + 1) hi).nodup hn
    rw [ahead_next hk, List.nodup_append] at this
    exact this.2.2 _ h _ (by simp) rfl
  unfold twiceP
  rw [decide_eq_false hn]; simp
theorem twice_inc {q : Nat} (h : q + 1 < gs.length) (hl : ltN (at_ gs (q : Int)).nm (at_ gs ((q + 1 : Nat) : Int)).nm = false) : twiceP gs = true := by
  unfold twiceP
  rw [incB_no h hl]; rfl
theorem twice_no (h : IncN gs gs.length) (hn : (flatP (gs.take gs.length)).Nodup) : twiceP gs = false := by
  rw [List.take_length] at hn
  unfold twiceP
  rw [incB_yes h, decide_eq_true hn]; rfl
theorem ck7 (h : manyB gs = true) : checkG pts gs = 7 := by unfold checkG; rw [h]; rfl
theorem ck4 (h1 : manyB gs = false) (h : badN gs = true) : checkG pts gs = 4 := by unfold checkG; rw [h1, h]; rfl
theorem ck6 (h1 : manyB gs = false) (h2 : badN gs = false) (h : badD gs = true) : checkG pts gs = 6 := by unfold checkG; rw [h1, h2, h]; rfl
theorem ck1 (h1 : manyB gs = false) (h2 : badN gs = false) (h3 : badD gs = false) (h : fewB gs = true) : checkG pts gs = 1 := by unfold checkG; rw [h1, h2, h3, h]; rfl
theorem ck5 (h1 : manyB gs = false) (h2 : badN gs = false) (h3 : badD gs = false) (h4 : fewB gs = false) (h : twiceP gs = true) : checkG pts gs = 5 := by unfold checkG; rw [h1, h2, h3, h4, h]; rfl
theorem ck3 (h1 : manyB gs = false) (h2 : badN gs = false) (h3 : badD gs = false) (h4 : fewB gs = false) (h5 : twiceP gs = false) (h : unkB pts gs = true) : checkG pts gs = 3 := by unfold checkG; rw [h1, h2, h3, h4, h5, h]; rfl
theorem ck11 (h1 : manyB gs = false) (h2 : badN gs = false) (h3 : badD gs = false) (h4 : fewB gs = false) (h5 : twiceP gs = false) (h6 : unkB pts gs = false) (h : typB pts gs = true) : checkG pts gs = 11 := by unfold checkG; rw [h1, h2, h3, h4, h5, h6, h]; rfl
theorem ck0 (h1 : manyB gs = false) (h2 : badN gs = false) (h3 : badD gs = false) (h4 : fewB gs = false) (h5 : twiceP gs = false) (h6 : unkB pts gs = false) (h : typB pts gs = false) : checkG pts gs = 0 := by unfold checkG; rw [h1, h2, h3, h4, h5, h6, h]; rfl
end Go.Aw.S15
