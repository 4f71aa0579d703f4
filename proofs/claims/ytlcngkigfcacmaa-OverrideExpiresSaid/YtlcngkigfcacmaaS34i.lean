/-
  Chapter 34: laws of valid lists and of the next change; no program.
-/
import Derived.Test.YtlcngkigfcacmaaS34h
namespace Go.Aw.S34
open Go.RowKit Go.Proofs Go.Aw.Tab
set_option linter.unusedSimpArgs false
set_option linter.unusedVariables false
set_option maxRecDepth 10000
set_option maxHeartbeats 1000000
variable {l : List Hold} {t : Int}
theorem bl_trans : ∀ {x y z : List UInt8}, Op.bytesLess x y = true → Op.bytesLess y z = true → Op.bytesLess x z = true
  | _, [], _, h, _ => by cases ‹List UInt8› <;> simp [Op.bytesLess] at h
  | _, _ :: _, [], _, h => by simp [Op.bytesLess] at h
  | [], _ :: _, _ :: _, _, _ => by simp [Op.bytesLess]
  | a :: x, b :: y, c :: z, h, h2 => by
    simp only [Op.bytesLess, Bool.or_eq_true, decide_eq_true_eq, Bool.and_eq_true, beq_iff_eq] at h h2 ⊢
    rcases h with h | ⟨rfl, h⟩
    · rcases h2 with h2 | ⟨rfl, h2⟩
      · left; exact UInt8.lt_trans h h2
      · left; exact h
    · rcases h2 with h2 | ⟨rfl, h2⟩
      · left; exact h2
      · right; exact ⟨rfl, bl_trans h h2⟩
theorem lsB_trans {x y z : ByteArray} (h : lsB x y = true) (h2 : lsB y z = true) : lsB x z = true := bl_trans h h2
theorem bl_irr : ∀ x : List UInt8, Op.bytesLess x x = false
  | [] => rfl
  | a :: x => by simp [Op.bytesLess, bl_irr x]
theorem any_take {α : Type} [Inhabited α] {l : List α} {p : α → Bool} {i : Nat} (h : i ≤ l.length) : (l.take i).any p = false ↔ ∀ k, k < i → p (at_ l (k : Int)) = false := by
  rw [List.any_eq_false]
  constructor
  · intro e k hk
    have : at_ l (k : Int) ∈ l.take i := by
      rw [at_nat (by omega)]
      exact List.mem_take_iff_getElem.2 ⟨k, by omega, rfl⟩
    simpa using e _ this
  · intro e x hx
    obtain ⟨k, hk, rfl⟩ := List.mem_take_iff_getElem.1 hx
    have := e k (by omega)
    rw [at_nat (by omega)] at this
    simpa using this
theorem all_take {α : Type} [Inhabited α] {l : List α} {p : α → Bool} {i : Nat} (h : i ≤ l.length) : (l.take i).all p = true ↔ ∀ k, k < i → p (at_ l (k : Int)) = true := by
  rw [List.all_eq_true]
  constructor
  · intro e k hk
    have : at_ l (k : Int) ∈ l.take i := by
      rw [at_nat (by omega)]
      exact List.mem_take_iff_getElem.2 ⟨k, by omega, rfl⟩
    exact e _ this
  · intro e x hx
    obtain ⟨k, hk, rfl⟩ := List.mem_take_iff_getElem.1 hx
    have := e k (by omega)
    rwa [at_nat (by omega)] at this
theorem dupF_iff : ∀ (k j : Nat), dupF l k j = true ↔ ∀ i, j ≤ i → i < j + k → okAt l i = true
  | 0, j => by simp [dupF]; intro i h1 h2; omega
  | k + 1, j => by
    rw [dupF, Bool.and_eq_true, dupF_iff k (j + 1)]
    constructor
    · rintro ⟨h1, h2⟩ i h3 h4
      by_cases e : i = j
      · rw [e]; exact h1
      · exact h2 i (by omega) (by omega)
    · intro h; exact ⟨h j (by omega) (by omega), fun i h1 h2 => h i (by omega) (by omega)⟩
theorem rF_iff : ∀ (k j : Nat), rF l k j = true ↔ ∀ i, j ≤ i → i < j + k → rAt l i = true
  | 0, j => by simp [rF]; intro i h1 h2; omega
  | k + 1, j => by
    rw [rF, Bool.and_eq_true, rF_iff k (j + 1)]
    constructor
    · rintro ⟨h1, h2⟩ i h3 h4
      by_cases e : i = j
      · rw [e]; exact h1
      · exact h2 i (by omega) (by omega)
    · intro h; exact ⟨h j (by omega) (by omega), fun i h1 h2 => h i (by omega) (by omega)⟩
theorem okAt_iff {i : Nat} (h : i < l.length) : okAt l i = true ↔ (0 < i → lsB (at_ l ((i : Int) - 1)).nm (at_ l (i : Int)).nm = true) ∧ ∀ k, k < i → (at_ l (k : Int)).seq ≠ (at_ l (i : Int)).seq := by
  unfold okAt
  rw [Bool.and_eq_true, Bool.not_eq_true', any_take (by omega)]
  simp only [Bool.or_eq_true, Bool.not_eq_true', decide_eq_false_iff_not]
  constructor
  · rintro ⟨h1, h2⟩
    exact ⟨fun h0 => by rcases h1 with h1 | h1; · exact absurd h0 h1
                        · exact h1, h2⟩
  · rintro ⟨h1, h2⟩
    refine ⟨?_, h2⟩
    by_cases e : 0 < i
    · exact .inr (h1 e)
    · exact .inl e
theorem rAt_iff {i : Nat} (h : i < l.length) : rAt l i = true ↔ ∀ k, k < i → (at_ l (k : Int)).seq ≠ (at_ l (i : Int)).seq ∧ lsB (at_ l (k : Int)).nm (at_ l (i : Int)).nm = true := by
  unfold rAt
  rw [all_take (by omega)]
  simp only [Bool.and_eq_true, Bool.not_eq_true', decide_eq_false_iff_not]
theorem dup_eq : dupF l l.length 0 = rF l l.length 0 := by
  rw [Bool.eq_iff_iff, dupF_iff, rF_iff]
  constructor
  · intro h i h0 hi
    have hi' : i < l.length := by omega
    rw [rAt_iff hi']
    have key : ∀ (d k : Nat), k + d + 1 < l.length → lsB (at_ l (k : Int)).nm (at_ l ((k + d + 1 : Nat) : Int)).nm = true := by
      intro d
      induction d with
      | zero =>
        intro k hk
        have := ((okAt_iff (i := k + 1) (by omega)).1 (h (k + 1) (by omega) (by omega))).1 (by omega)
        rwa [show ((k + 1 : Nat) : Int) - 1 = (k : Int) by omega] at this
      | succ d ih =>
        intro k hk
        have h1 := ih k (by omega)
        have h2 := ((okAt_iff (i := k + (d + 1) + 1) (by omega)).1 (h (k + (d + 1) + 1) (by omega) (by omega))).1 (by omega)
        rw [show ((k + (d + 1) + 1 : Nat) : Int) - 1 = ((k + d + 1 : Nat) : Int) by omega] at h2
        exact lsB_trans h1 h2
    intro k hk
    refine ⟨((okAt_iff hi').1 (h i h0 hi)).2 k hk, ?_⟩
    have := key (i - k - 1) k (by omega)
    rwa [show k + (i - k - 1) + 1 = i by omega] at this
  · intro h i h0 hi
    have hi' : i < l.length := by omega
    rw [okAt_iff hi']
    have hr := (rAt_iff hi').1 (h i h0 hi)
    refine ⟨fun hp => ?_, fun k hk => (hr k hk).1⟩
    have := (hr (i - 1) (by omega)).2
    rwa [show ((i - 1 : Nat) : Int) = (i : Int) - 1 by omega] at this
theorem chk_eq : chkR l = chk l := by
  unfold chkR chk stN stR stK stF
  rw [dup_eq]
theorem chk_rng (h : chk l = 0) : ∀ x ∈ l, rngB x = true := by
  unfold chk at h
  split at h
  · omega
  split at h
  · omega
  split at h
  · omega
  rename_i h1
  simpa using h1
theorem ends_pos (h : chk l = 0) : ∀ e ∈ endsL l, 0 ≤ e := by
  intro e he
  obtain ⟨x, hx, hm⟩ := List.mem_flatMap.1 he
  have hr := chk_rng h x hx
  simp only [rngB, decide_eq_true_eq] at hr
  simp only [List.mem_cons, List.not_mem_nil, or_false] at hm
  rcases hm with rfl | rfl <;> omega
theorem mem_sortI {x : Int} {xs : List Int} : x ∈ sortI xs ↔ x ∈ xs := List.mem_mergeSort
theorem sortI_sorted (xs : List Int) : (sortI xs).Pairwise (fun a b => a ≤ b) := by
  have h := List.pairwise_mergeSort (le := fun x y : Int => decide (x ≤ y)) (fun a b c h1 h2 => by simp at *; omega) (fun a b => by simp; omega) xs
  exact h.imp (fun h => by simpa using h)
theorem rnxF_spec {c : Int} : ∀ (es : List Int) (b : Int), (∀ e ∈ es, 0 ≤ e) →
    (rnxF l t c es b = b ∨ (rnxF l t c es b ∈ es ∧ t < rnxF l t c es b ∧ atC c l (rnxF l t c es b) ≠ atC c l t)) ∧
    (∀ e ∈ es, t < e → atC c l e ≠ atC c l t → 0 ≤ rnxF l t c es b ∧ rnxF l t c es b ≤ e) ∧ (0 ≤ b → 0 ≤ rnxF l t c es b ∧ rnxF l t c es b ≤ b)
  | [], b, _ => by simp [rnxF]
  | e :: r, b, h => by
    have he := h e (List.mem_cons_self ..)
    have hr : ∀ x ∈ r, 0 ≤ x := fun x hx => h x (List.mem_cons_of_mem _ hx)
    rw [rnxF]
    obtain ⟨i1, i2, i3⟩ := rnxF_spec (c := c) r (rbet l t c e b) hr
    generalize hR : rnxF l t c r (rbet l t c e b) = R at i1 i2 i3 ⊢
    by_cases hc : t < e ∧ (b < 0 ∨ e < b) ∧ atC c l e ≠ atC c l t
    · have hb : rbet l t c e b = e := if_pos hc
      rw [hb] at i1 i3
      have i4 := i3 he
      refine ⟨?_, ?_, ?_⟩
      · rcases i1 with i1 | ⟨i1, i5⟩
        · right; rw [i1]; exact ⟨List.mem_cons_self .., hc.1, hc.2.2⟩
        · right; exact ⟨List.mem_cons_of_mem _ i1, i5⟩
      · intro x hx h1 h2
        rcases List.mem_cons.1 hx with rfl | hx
        · exact i4
        · exact i2 x hx h1 h2
      · intro hb0; omega
    · have hb : rbet l t c e b = b := if_neg hc
      rw [hb] at i1 i3
      refine ⟨?_, ?_, i3⟩
      · rcases i1 with i1 | ⟨i1, i5⟩
        · left; exact i1
        · right; exact ⟨List.mem_cons_of_mem _ i1, i5⟩
      · intro x hx h1 h2
        rcases List.mem_cons.1 hx with rfl | hx
        · have : ¬ (b < 0 ∨ x < b) := fun e => hc ⟨h1, e, h2⟩
          have := i3 (by omega)
          omega
        · exact i2 x hx h1 h2
theorem nxF_spec {now : Int} : ∀ (es : List Int), es.Pairwise (fun a b => a ≤ b) →
    (nxF l t now es = (0, 9) ∧ ∀ e ∈ es, t < e → gov l e = now) ∨ ∃ r, nxF l t now es = (r, 0) ∧ r ∈ es ∧ t < r ∧ gov l r ≠ now ∧ ∀ e ∈ es, t < e → gov l e ≠ now → r ≤ e
  | [], _ => by simp [nxF]
  | e :: r, h => by
    rw [List.pairwise_cons] at h
    rw [nxF]
    by_cases hc : t < e ∧ gov l e ≠ now
    · rw [if_pos hc]
      refine .inr ⟨e, rfl, List.mem_cons_self .., hc.1, hc.2, fun x hx h1 h2 => ?_⟩
      rcases List.mem_cons.1 hx with rfl | hx
      · omega
      · exact h.1 x hx
    · rw [if_neg hc]
      rcases nxF_spec (now := now) r h.2 with ⟨h1, h2⟩ | ⟨x, h1, h2, h3, h4, h5⟩
      · refine .inl ⟨h1, fun x hx h3 => ?_⟩
        rcases List.mem_cons.1 hx with rfl | hx
        · exact Decidable.byContradiction fun e => hc ⟨h3, e⟩
        · exact h2 x hx h3
      · refine .inr ⟨x, h1, List.mem_cons_of_mem _ h2, h3, h4, fun y hy h6 h7 => ?_⟩
        rcases List.mem_cons.1 hy with rfl | hy
        · exact absurd ⟨h6, h7⟩ hc
        · exact h5 y hy h6 h7
/-- The next change: the program's answer and the specification's. -/
theorem nxt_law (h : chk l = 0) : (rnx l t < 0 ∧ nxtP l t = (0, 9)) ∨ (0 ≤ rnx l t ∧ nxtP l t = (rnx l t, 0)) := by
  have hp := ends_pos h
  have hA : ∀ x, atC (chkR l) l x = gov l x := fun x => by rw [chk_eq, h]; rfl
  obtain ⟨i1, i2, _⟩ := rnxF_spec (l := l) (t := t) (c := chkR l) (endsL l) (-1) hp
  change (rnx l t = -1 ∨ (rnx l t ∈ endsL l ∧ t < rnx l t ∧ _ ≠ _)) at i1
  change ∀ e ∈ endsL l, t < e → _ → 0 ≤ rnx l t ∧ rnx l t ≤ e at i2
  simp only [hA] at i1 i2
  have hN : nxtP l t = nxF l t (gov l t) (sortI (endsL l)) := if_pos h
  rw [hN]
  rcases nxF_spec (l := l) (t := t) (now := gov l t) _ (sortI_sorted (endsL l)) with ⟨h1, h2⟩ | ⟨r, h1, h2, h3, h4, h5⟩
  · left
    refine ⟨?_, h1⟩
    rcases i1 with i1 | ⟨i1, i3, i4⟩
    · rw [i1]; decide
    · exact absurd (h2 _ (mem_sortI.2 i1) i3) i4
  · right
    have h6 := i2 r (mem_sortI.1 h2) h3 h4
    refine ⟨h6.1, ?_⟩
    rw [h1]
    congr 1
    rcases i1 with i1 | ⟨i1, i3, i4⟩
    · omega
    · have := h5 _ (mem_sortI.2 i1) i3 i4; omega
end Go.Aw.S34
