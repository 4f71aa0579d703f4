/-
  Chapter 25: orders and cycles, plain.
-/
import Derived.Test.YtmjhbococmnppaaS25F
namespace Go.Aw.S25
open Go.RowKit Go.Proofs Go.Aw.Tab
set_option linter.unusedSimpArgs false
set_option linter.unusedVariables false
/-- Each element of a list may stand there. -/
structure PosOk (fs : List (List Int)) (l : List Int) : Prop where
  ok : ∀ j : Nat, j < l.length → (0 ≤ at_ l (j : Int) ∧ at_ l (j : Int) < fs.length) ∧ at_ l (j : Int) ∉ l.take j ∧ readyB (at_ fs (at_ l (j : Int))) (l.take j) = true
theorem valid_iff {fs : List (List Int)} {l : List Int} (hl : l.length = fs.length) : validF fs l = true ↔ PosOk fs l := by
  unfold validF
  rw [List.all_eq_true]
  constructor
  · intro h
    refine ⟨fun j hj => ?_⟩
    have := h j (by simpa using hj)
    unfold valB at this
    simp only [Bool.and_eq_true, Bool.not_eq_true', decide_eq_true_iff, decide_eq_false_iff_not] at this
    exact ⟨by omega, this.1.2, this.2⟩
  · intro h j hj
    have hj' : j < l.length := by simpa using hj
    have := h.ok j hj'
    unfold valB
    simp only [Bool.and_eq_true, Bool.not_eq_true', decide_eq_true_iff, decide_eq_false_iff_not]
    exact ⟨⟨by omega, this.2.1⟩, this.2.2⟩
theorem take_pre {a b : List Int} (h : a <+: b) {j : Nat} (hj : j ≤ a.length) : b.take j = a.take j := by
  obtain ⟨t, rfl⟩ := h
  rw [List.take_append_of_le_length hj]
theorem PosOk.snoc {fs : List (List Int)} {l : List Int} (h : PosOk fs l) {x : Int} (h0 : 0 ≤ x ∧ x < fs.length) (h1 : x ∉ l) (h2 : readyB (at_ fs x) l = true) : PosOk fs (l ++ [x]) := by
  refine ⟨fun j hj => ?_⟩
  rw [List.length_append] at hj
  simp only [List.length_cons, List.length_nil] at hj
  by_cases e : j < l.length
  · rw [prefix_at (List.prefix_append _ _) e, take_pre (List.prefix_append l [x]) (by omega)]
    exact h.ok j e
  · have : j = l.length := by omega
    subst this
    have : at_ (l ++ [x]) ((l.length : Nat) : Int) = x := by rw [at_nat (by simp)]; simp
    rw [this, take_pre (List.prefix_append l [x]) (Nat.le_refl _), List.take_length]
    exact ⟨h0, h1, h2⟩
theorem firstR_spec {fs : List (List Int)} {bs : List Bool} {i : Nat} (h : firstR fs bs = some i) : i < fs.length ∧ rdyB bs (at_ fs (i : Int)) i = true ∧ ∀ q : Nat, q < i → rdyB bs (at_ fs (q : Int)) q = false := by
  unfold firstR at h
  rw [List.find?_range_eq_some] at h
  exact ⟨by simpa using h.2.1, h.1, fun q hq => by simpa using h.2.2 q hq⟩
theorem firstR_nope {fs : List (List Int)} {bs : List Bool} (h : firstR fs bs = none) : ∀ q : Nat, q < fs.length → rdyB bs (at_ fs (q : Int)) q = false := by
  unfold firstR at h
  rw [List.find?_eq_none] at h
  intro q hq
  simpa using h q (by simpa using hq)
theorem ordP_step {fs : List (List Int)} (hfs : GfOk fs) (k : Nat) : (∃ i : Nat, firstR fs (ordP fs k).1 = some i ∧ i < fs.length ∧ (i : Int) ∉ (ordP fs k).2 ∧ readyB (at_ fs (i : Int)) (ordP fs k).2 = true ∧ ordP fs (k + 1) = ((ordP fs k).1.set i true, (ordP fs k).2 ++ [(i : Int)]) ∧ ∀ q : Nat, q < i → (q : Int) ∉ (ordP fs k).2 → readyB (at_ fs (q : Int)) (ordP fs k).2 = false) ∨
    (firstR fs (ordP fs k).1 = none ∧ ordP fs (k + 1) = ordP fs k ∧ ∀ q : Nat, q < fs.length → (q : Int) ∉ (ordP fs k).2 → readyB (at_ fs (q : Int)) (ordP fs k).2 = false) := by
  have hr : ordP fs (k + 1) = stepO fs (ordP fs k) := rfl
  cases hf : firstR fs (ordP fs k).1 with
  | some i =>
    left
    obtain ⟨h1, h2, h3⟩ := firstR_spec hf
    rw [rdyB_eq hfs h1] at h2
    simp only [Bool.and_eq_true, Bool.not_eq_true', decide_eq_false_iff_not] at h2
    refine ⟨i, rfl, h1, h2.1, h2.2, by rw [hr]; unfold stepO; rw [hf], fun q hq hn => ?_⟩
    have := h3 q hq
    rw [rdyB_eq hfs (by omega), decide_eq_false hn] at this
    simpa using this
  | none =>
    right
    refine ⟨rfl, by rw [hr]; unfold stepO; rw [hf], fun q hq hn => ?_⟩
    have := firstR_nope hf q hq
    rw [rdyB_eq hfs hq, decide_eq_false hn] at this
    simpa using this
theorem ordP_pos {fs : List (List Int)} (hfs : GfOk fs) : ∀ k, PosOk fs (ordP fs k).2
  | 0 => ⟨fun j hj => by simp [ordP] at hj⟩
  | k + 1 => by
    have ih := ordP_pos hfs k
    rcases ordP_step hfs k with ⟨i, _, h1, h2, h3, h4, _⟩ | ⟨_, h, _⟩
    · rw [h4]; exact ih.snoc (by omega) h2 h3
    · rw [h]; exact ih
theorem ordP_pre {fs : List (List Int)} (hfs : GfOk fs) (k : Nat) : ∀ j, (ordP fs k).2 <+: (ordP fs (k + j)).2
  | 0 => List.prefix_refl _
  | j + 1 => by
    have ih := ordP_pre hfs k j
    rcases ordP_step hfs (k + j) with ⟨i, _, h1, h2, h3, h4, _⟩ | ⟨_, h, _⟩
    · rw [show k + (j + 1) = k + j + 1 by omega, h4]; exact ih.trans (List.prefix_append _ _)
    · rw [show k + (j + 1) = k + j + 1 by omega, h]; exact ih
/-- It is stuck, or as long as it may be. -/
theorem ordP_full {fs : List (List Int)} (hfs : GfOk fs) : ∀ k, (ordP fs k).2.length = k ∨ (ordP fs (k + 1) = ordP fs k ∧ ∀ q : Nat, q < fs.length → (q : Int) ∉ (ordP fs k).2 → readyB (at_ fs (q : Int)) (ordP fs k).2 = false)
  | 0 => .inl rfl
  | k + 1 => by
    have ih := ordP_full hfs k
    rcases ih with ih | ⟨h1, h2⟩
    · rcases ordP_step hfs k with ⟨i, _, h1, h2, h3, h4, _⟩ | ⟨_, h, h2⟩
      · left; rw [h4]; simp; omega
      · right
        rw [h]
        refine ⟨?_, h2⟩
        show stepO fs (ordP fs (k + 1)) = ordP fs k
        rw [h]
        exact h
    · right
      rw [h1]
      refine ⟨?_, h2⟩
      show stepO fs (ordP fs (k + 1)) = ordP fs k
      rw [h1]; exact h1
theorem PosOk.nodup {fs : List (List Int)} {l : List Int} (h : PosOk fs l) : ∀ k, k ≤ l.length → (l.take k).Nodup
  | 0, _ => by simp
  | k + 1, hk => by
    have ih := PosOk.nodup h k (by omega)
    rw [take_next (by omega), List.nodup_append]
    refine ⟨ih, by simp, fun a ha b hb e => ?_⟩
    simp only [List.mem_cons, List.not_mem_nil, or_false] at hb
    subst hb e
    exact (h.ok k (by omega)).2.1 ha
/-- A list without repetition that is as long as the range holds all. -/
theorem nodup_all {m : Nat} {l : List Int} (hn : l.Nodup) (hr : ∀ x ∈ l, 0 ≤ x ∧ x < m) (hl : l.length = m) {q : Nat} (hq : q < m) : (q : Int) ∈ l := by
  apply Decidable.byContradiction
  intro h
  -- send the last number to q
  have h1 : (l.map fun x => if x = ((m - 1 : Nat) : Int) then (q : Int) else x).Nodup := by
    unfold List.Nodup
    rw [List.pairwise_map]
    refine List.Pairwise.imp_of_mem ?_ hn
    intro a b ha hb hab
    split
    · split
      · omega
      · intro e; subst e; exact h hb
    · split
      · intro e; subst e; exact h ha
      · exact hab
  have := nodup_len (m - 1) _ h1 (fun x hx => by
    obtain ⟨y, hy, rfl⟩ := List.mem_map.1 hx
    have hy1 := hr y hy
    split
    · rename_i e
      by_cases e2 : q = m - 1
      · exfalso; subst e2; rw [← e] at h; exact h hy
      · omega
    · omega)
  rw [List.length_map] at this
  omega
theorem ofP_all {l : List Nd} (hl : l.length ≤ 64) (h : (ofP l).length = l.length) : PosOk (feedsP l false) (ofP l) ∧ ∀ q : Nat, q < l.length → (q : Int) ∈ ofP l := by
  have hfs := feeds_ok l false hl
  have hp : PosOk (feedsP l false) (ofP l) := ordP_pos hfs _
  refine ⟨hp, fun q hq => ?_⟩
  have hn := hp.nodup (ofP l).length (Nat.le_refl _)
  rw [List.take_length] at hn
  exact nodup_all hn (fun x hx => by have := ordP_rng (feedsP l false) _ x hx; rw [feeds_len] at this; exact this) h hq
/-- There is an order: the greedy one is whole. -/
theorem order_full {fs : List (List Int)} (hfs : GfOk fs) {l : List Int} (hl : l.length = fs.length) (h : PosOk fs l) : (ordP fs fs.length).2.length = fs.length := by
  rcases ordP_full hfs fs.length with e | ⟨_, h2⟩
  · exact e
  · -- the first one of the list that is not placed would be ready
    have hnd := h.nodup l.length (Nat.le_refl _)
    rw [List.take_length] at hnd
    have key : ∀ k : Nat, k ≤ l.length → ∀ x ∈ l.take k, x ∈ (ordP fs fs.length).2 := by
      intro k
      induction k with
      | zero => intro _ x hx; simp at hx
      | succ k ih =>
        intro hk x hx
        rw [take_next (by omega), List.mem_append] at hx
        rcases hx with hx | hx
        · exact ih (by omega) x hx
        · simp only [List.mem_cons, List.not_mem_nil, or_false] at hx
          obtain ⟨g1, g2, g3⟩ := h.ok k (by omega)
          obtain ⟨q, hq⟩ : ∃ q : Nat, at_ l (k : Int) = (q : Int) := ⟨(at_ l (k : Int)).toNat, by omega⟩
          rw [hx]
          rw [hq] at g1 g3 ⊢
          apply Decidable.byContradiction
          intro hn
          have hf := h2 q (by omega) hn
          have ht : readyB (at_ fs (q : Int)) (ordP fs fs.length).2 = true := by
            unfold readyB at g3 ⊢
            rw [List.all_eq_true] at g3 ⊢
            intro y hy
            exact decide_eq_true (ih (by omega) y (of_decide_eq_true (g3 y hy)))
          rw [ht] at hf
          cases hf
    have hall : ∀ q : Nat, q < fs.length → (q : Int) ∈ (ordP fs fs.length).2 := fun q hq => by
      have := nodup_all hnd (fun x hx => by
        obtain ⟨j, hj, e⟩ := mem_at hx
        rw [← e]; exact (h.ok j hj).1) hl hq
      exact key l.length (Nat.le_refl _) _ (by rw [List.take_length]; exact this)
    have h3 := (ordP_pos hfs fs.length).nodup _ (Nat.le_refl _)
    rw [List.take_length] at h3
    have hle := (ordP_len fs fs.length).2
    -- all are there: as many
    apply Decidable.byContradiction
    intro hne
    have hlt : (ordP fs fs.length).2.length < fs.length := by omega
    have h4 : ((List.range fs.length).map fun (i : Nat) => (i : Int)).Nodup := by
      unfold List.Nodup
      rw [List.pairwise_map]
      exact List.nodup_range.imp (fun h => by omega)
    have key2 : ∀ (a b : List Int), a.Nodup → (∀ x ∈ a, x ∈ b) → a.length ≤ b.length := by
      intro a
      induction a with
      | nil => intro b _ _; simp
      | cons x r ih =>
        intro b hn hb
        rw [List.nodup_cons] at hn
        have := ih (b.erase x) hn.2 (fun y hy => (List.mem_erase_of_ne (fun e => hn.1 (by rw [← e]; exact hy))).2 (hb y (by simp [hy])))
        have hx := hb x (by simp)
        rw [List.length_erase_of_mem hx] at this
        have := List.length_pos_of_mem hx
        simp only [List.length_cons]
        omega
    have := key2 _ _ h4 (fun x hx => by
      obtain ⟨q, hq, rfl⟩ := List.mem_map.1 hx
      exact hall q (by simpa using hq))
    simp at this
    omega
/-! ### Cycles -/
structure WayOk (fs : List (List Int)) (way : List Int) : Prop where
  ne : 0 < way.length
  rng : ∀ x ∈ way, 0 ≤ x ∧ x < fs.length
  gt : ∀ j : Nat, 0 < j → j < way.length → at_ way ((0 : Nat) : Int) < at_ way (j : Int)
  ch : ∀ j : Nat, j + 1 < way.length → at_ way (j : Int) ∈ at_ fs (at_ way ((j + 1 : Nat) : Int))
theorem WayOk.snoc {fs : List (List Int)} {way : List Int} (h : WayOk fs way) {k : Nat} (hk : k < fs.length) (h1 : at_ way ((0 : Nat) : Int) < (k : Int)) (h2 : lastI way ∈ at_ fs (k : Int)) : WayOk fs (way ++ [(k : Int)]) := by
  have hpre : ∀ r : Nat, r < way.length → at_ (way ++ [(k : Int)]) (r : Int) = at_ way (r : Int) := fun r hr => prefix_at (List.prefix_append _ _) hr
  have hlast : at_ (way ++ [(k : Int)]) ((way.length : Nat) : Int) = (k : Int) := by rw [at_nat (by simp)]; simp
  have hlen : (way ++ [(k : Int)]).length = way.length + 1 := by simp
  refine ⟨by omega, fun x hx => ?_, fun j h3 h4 => ?_, fun j h3 => ?_⟩
  · rcases List.mem_append.1 hx with hx | hx
    · exact h.rng x hx
    · simp only [List.mem_cons, List.not_mem_nil, or_false] at hx
      subst hx; omega
  · rw [hpre 0 h.ne]
    by_cases e : j < way.length
    · rw [hpre j e]; exact h.gt j h3 e
    · have : j = way.length := by omega
      subst this
      rw [hlast]; exact h1
  · by_cases e : j + 1 < way.length
    · rw [hpre j (by omega), hpre (j + 1) e]; exact h.ch j e
    · have e1 : j + 1 = way.length := by omega
      have e2 : j = way.length - 1 := by omega
      rw [hpre j (by omega), e1, hlast]
      unfold lastI at h2
      rw [← e2] at h2
      exact h2
theorem grow_way {fs : List (List Int)} : ∀ (r : Nat) (way : List Int), WayOk fs way → grow fs r way ≠ [] → WayOk fs (grow fs r way) ∧ lastI (grow fs r way) ∈ at_ fs (at_ (grow fs r way) ((0 : Nat) : Int))
  | 0, way, h, hn => by
    unfold grow at hn ⊢
    split at hn
    · rename_i e; rw [if_pos e]; exact ⟨h, e⟩
    · exact absurd rfl hn
  | r + 1, way, h, hn => by
    unfold grow at hn ⊢
    obtain ⟨k, hk, h1, h2, _⟩ := firstNE_inv hn
    rw [h2]
    try dsimp only at h1 ⊢
    split at h1
    · rename_i e
      rw [if_pos e]
      exact grow_way r _ (h.snoc hk e.1 e.2.2) h1
    · exact absurd rfl h1
theorem cycR_way {fs : List (List Int)} (h : cycR fs ≠ []) : WayOk fs (cycR fs) ∧ lastI (cycR fs) ∈ at_ fs (at_ (cycR fs) ((0 : Nat) : Int)) := by
  unfold cycR at h ⊢
  obtain ⟨L, hL, h1, h2, _⟩ := firstNE_inv h
  rw [h2]
  try dsimp only at h1 ⊢
  obtain ⟨a, ha, h3, h4, _⟩ := firstNE_inv h1
  rw [h4]
  refine grow_way L _ ⟨by simp, fun x hx => ?_, fun j h5 h6 => ?_, fun j h5 => ?_⟩ h3
  · simp only [List.mem_cons, List.not_mem_nil, or_false] at hx
    subst hx; omega
  · simp at h6; omega
  · simp at h5
/-- In an order no node of a cycle stands. -/
theorem cycle_no_order {fs : List (List Int)} {c l : List Int} (hc : WayOk fs c) (h2 : lastI c ∈ at_ fs (at_ c ((0 : Nat) : Int))) (hl : PosOk fs l) : ∀ x ∈ c, x ∉ l := by
  have hpred : ∀ x ∈ c, ∃ y ∈ c, y ∈ at_ fs x := fun x hx => by
    obtain ⟨j, hj, rfl⟩ := mem_at hx
    by_cases e : j = 0
    · subst e
      exact ⟨lastI c, at_mem (by have := hc.ne; omega), h2⟩
    · have := hc.ch (j - 1) (by omega)
      rw [show j - 1 + 1 = j by omega] at this
      exact ⟨_, at_mem (j := j - 1) (by omega), this⟩
  have key : ∀ k : Nat, k ≤ l.length → ∀ x ∈ c, x ∉ l.take k := by
    intro k
    induction k with
    | zero => intro _ x _ h; simp at h
    | succ k ih =>
      intro hk x hx h
      rw [take_next (by omega), List.mem_append] at h
      rcases h with h | h
      · exact ih (by omega) x hx h
      · simp only [List.mem_cons, List.not_mem_nil, or_false] at h
        obtain ⟨_, _, g3⟩ := hl.ok k (by omega)
        rw [← h] at g3
        obtain ⟨y, hy, hyx⟩ := hpred x hx
        unfold readyB at g3
        rw [List.all_eq_true] at g3
        exact ih (by omega) y hy (of_decide_eq_true (g3 y hyx))
  intro x hx h
  exact key l.length (Nat.le_refl _) x hx (by rw [List.take_length]; exact h)
/-- The numbers of steps exist. -/
theorem aw_ex {fs : List (List Int)} (hr : ∀ i : Nat, i < fs.length → ∀ x ∈ at_ fs (i : Int), 0 ≤ x ∧ x < fs.length) {a : Nat} (ha : a < fs.length) : ∃ aw, AwOk fs a aw := by
  have key : ∀ (d k : Nat) (st : List Int × List Int), fs.length - k ≤ d → CyI fs a st k [] → ∃ aw, AwOk fs a aw := by
    intro d
    induction d with
    | zero =>
      intro k st hd h
      have h1 := h.le
      have h2 := h.kl
      have : k = st.2.length := by omega
      subst this
      exact ⟨_, h.fin ha⟩
    | succ d ih =>
      intro k st hd h
      by_cases e : k < st.2.length
      · have hs := (CyI.steps hr ha h e (at_ fs (at_ st.2 (k : Int))).length (Nat.le_refl _))
        rw [List.take_length] at hs
        have hp := prefix_at hs.2 e
        obtain ⟨hs1, hs2⟩ := hs
        have hle := hs2.length_le
        generalize cyK a (at_ st.2 (k : Int)) st (at_ fs (at_ st.2 (k : Int))) (at_ fs (at_ st.2 (k : Int))).length = st2 at *
        rw [← hp] at hs1
        have hn := CyI.next (by omega) hs1
        exact ih (k + 1) _ (by have := h.le; omega) hn
      · have h2 := h.kl
        have : k = st.2.length := by omega
        subst this
        exact ⟨_, h.fin ha⟩
  exact key fs.length 0 _ (by omega) (CyI.init ha)
theorem cyc_of_wk {fs : List (List Int)} (hr : ∀ i : Nat, i < fs.length → ∀ x ∈ at_ fs (i : Int), 0 ≤ x ∧ x < fs.length) {a d : Nat} (ha : a < fs.length) (h : Wk fs a (d + 1) a) : cycR fs ≠ [] := by
  obtain ⟨aw, hw⟩ := aw_ex hr ha
  have h1 := hw.le d a (Nat.le_refl _) ha h
  have h2 := hw.nn a ha
  obtain ⟨e, he⟩ : ∃ e : Nat, (at_ aw (a : Int)).toNat - 1 = e := ⟨_, rfl⟩
  have hg := grdy_grow ha hw e [(a : Int)] a (by simp) rfl rfl (Nat.le_refl _) ha (by omega) (by simp)
  intro hc
  rw [← best_ref] at hc
  have := (best_ok fs fs.length).no hc a ha
  have := (cyc_le (fs := fs) (a := a) (L := e) (by omega) hg.2).1
  exact this (by assumption)
/-- Without a cycle every set has an element that no other one of it feeds. -/
theorem source_ex {fs : List (List Int)} (hr : ∀ i : Nat, i < fs.length → ∀ x ∈ at_ fs (i : Int), 0 ≤ x ∧ x < fs.length) (hc : ∀ a d : Nat, a < fs.length → ¬ Wk fs a (d + 1) a) : ∀ (e t : Nat), t + e = fs.length → ∀ S : Nat → Prop, (∀ x, S x → t ≤ x ∧ x < fs.length) → (∃ x, S x) → ∃ s, S s ∧ ∀ z : Nat, S z → (z : Int) ∉ at_ fs (s : Int) := by
  intro e
  induction e with
  | zero =>
    intro t ht S hS ⟨x, hx⟩
    have := hS x hx; omega
  | succ e ih =>
    intro t ht S hS hne
    have htl : t < fs.length := by omega
    by_cases hSt : S t
    rotate_left
    · exact ih (t + 1) (by omega) S (fun x hx => by
        have := hS x hx
        have : x ≠ t := fun e => hSt (e ▸ hx)
        omega) hne
    by_cases hfed : ∃ z : Nat, S z ∧ (z : Int) ∈ at_ fs (t : Int)
    rotate_left
    · exact ⟨t, hSt, fun z hz hzt => hfed ⟨z, hz, hzt⟩⟩
    -- those that reach t
    obtain ⟨s, ⟨hs1, hs2, d, hs3⟩, hs4⟩ := ih (t + 1) (by omega) (fun x => S x ∧ t < x ∧ ∃ d, Wk fs t (d + 1) x) (fun x hx => by have := hS x hx.1; omega) (by
      obtain ⟨z, hz, hzt⟩ := hfed
      have hzr := hS z hz
      have hw : Wk fs t 1 z := ⟨t, htl, hzt, .inr rfl, rfl⟩
      have : z ≠ t := fun e => hc t 0 htl (by rw [e] at hw; exact hw)
      exact ⟨z, hz, by omega, 0, hw⟩)
    refine ⟨s, hs1, fun z hz hzs => ?_⟩
    have hzr := hS z hz
    have hsr := hS s hs1
    have hwz : Wk fs t (d + 1 + 1) z := ⟨s, hsr.2, hzs, .inl hs2, hs3⟩
    by_cases e : z = t
    · subst e; exact hc z (d + 1) hzr.2 hwz
    · exact hs4 z ⟨hz, by omega, d + 1, hwz⟩ hzs
/-- Either an order or a cycle. -/
theorem either_iff {fs : List (List Int)} (hfs : GfOk fs) : (ordP fs fs.length).2.length = fs.length ↔ cycR fs = [] := by
  constructor
  · intro h
    apply Decidable.byContradiction
    intro hc
    obtain ⟨h1, h2⟩ := cycR_way hc
    have hp := ordP_pos hfs fs.length
    have hno := cycle_no_order h1 h2 hp
    have hn := hp.nodup _ (Nat.le_refl _)
    rw [List.take_length] at hn
    have h0 := at_mem (l := cycR fs) (j := 0) h1.ne
    have hr := h1.rng _ h0
    obtain ⟨q, hq⟩ : ∃ q : Nat, at_ (cycR fs) ((0 : Nat) : Int) = (q : Int) := ⟨(at_ (cycR fs) ((0 : Nat) : Int)).toNat, by omega⟩
    rw [hq] at h0 hr
    exact hno _ h0 (nodup_all hn (fun x hx => ordP_rng fs _ x hx) h (by omega))
  · intro h
    rcases ordP_full hfs fs.length with e | ⟨_, h2⟩
    · exact e
    · apply Decidable.byContradiction
      intro hne
      have hp := ordP_pos hfs fs.length
      have hle := (ordP_len fs fs.length).2
      have hex : ∃ x : Nat, x < fs.length ∧ (x : Int) ∉ (ordP fs fs.length).2 := by
        apply Decidable.byContradiction
        intro hall
        have hn := hp.nodup _ (Nat.le_refl _)
        rw [List.take_length] at hn
        apply hne
        have hcnt : ∀ q : Nat, q < fs.length → at_ (ordP fs fs.length).1 (q : Int) = true := fun q hq => by
          rw [ordP_inv fs _ q hq]
          exact decide_eq_true (Decidable.byContradiction fun h => hall ⟨q, hq, h⟩)
        -- the whole range is in the list
        have hpos : PosOk fs (ordP fs fs.length).2 := hp
        apply Decidable.byContradiction
        intro _
        have key2 : ∀ (a b : List Int), a.Nodup → (∀ x ∈ a, x ∈ b) → a.length ≤ b.length := by
          intro a
          induction a with
          | nil => intro b _ _; simp
          | cons x r ih =>
            intro b hn hb
            rw [List.nodup_cons] at hn
            have := ih (b.erase x) hn.2 (fun y hy => (List.mem_erase_of_ne (fun e => hn.1 (by rw [← e]; exact hy))).2 (hb y (by simp [hy])))
            have hx := hb x (by simp)
            rw [List.length_erase_of_mem hx] at this
            have := List.length_pos_of_mem hx
            simp only [List.length_cons]
            omega
        have h4 : ((List.range fs.length).map fun (i : Nat) => (i : Int)).Nodup := by
          unfold List.Nodup
          rw [List.pairwise_map]
          exact List.nodup_range.imp (fun h => by omega)
        have := key2 _ (ordP fs fs.length).2 h4 (fun x hx => by
          obtain ⟨q, hq, rfl⟩ := List.mem_map.1 hx
          have hq : q < fs.length := by simpa using hq
          exact Decidable.byContradiction fun h => hall ⟨q, hq, h⟩)
        simp at this
        omega
      obtain ⟨s, ⟨hs1, hs2⟩, hs3⟩ := source_ex hfs.rng (fun a d ha hw => cyc_of_wk hfs.rng ha hw h) fs.length 0 (by omega) (fun x => x < fs.length ∧ (x : Int) ∉ (ordP fs fs.length).2) (fun x hx => by omega) hex
      have hf := h2 s hs1 hs2
      unfold readyB at hf
      rw [List.all_eq_false] at hf
      obtain ⟨y, hy, hyn⟩ := hf
      have hyr := hfs.rng s hs1 y hy
      obtain ⟨q, rfl⟩ := at_drop0 (bs := []) hyr.1
      exact hs3 q ⟨by omega, by simpa using hyn⟩ hy
end Go.Aw.S25
/-
  Chapter 25: an order or a cycle.
-/
namespace Go.Aw.S25
open Go.RowKit Go.Proofs Go.Aw.Tab
set_option linter.unusedSimpArgs false
set_option linter.unusedVariables false
set_option maxRecDepth 10000
set_option maxHeartbeats 1000000
set_option pp.deepTerms false
set_option pp.deepTerms.threshold 4
set_option pp.maxSteps 1500
attribute [local simp] Lk.cells Nd.cells Dr.cells Pg.val intC boolC
variable {w0 : World} {n : Nat} {H : Heap} {K : Value → Nat → Heap → Prop} {p : Pg} {D E : Nat → Prop}
theorem rem_next {i m : Nat} (h : i < m) : (((i : Int) + 1).tmod (m : Int)) = ((if i + 1 = m then 0 else i + 1 : Nat) : Int) := by
  rw [Int.tmod_eq_emod_of_nonneg (by omega)]
  split
  · rename_i e
    rw [show (i : Int) + 1 = (m : Int) by omega]; simp
  · rw [Int.emod_eq_of_lt (by omega) (by omega)]; omega
theorem eitherLaw_ok (hp : PrR H w0 D p) (hD : ∀ i, D i → i < n) (hk : ∀ n' H', n ≤ n' → (∀ i, i < n → H' i = H i) → K (.bool true) n' H') : ACall ⟨Try.prog, w0⟩ 7 [p.val] K n H := by
  refine ACall.run Try.func7 rfl Try.ntmps7 Try.results7 (by simp) fun J0 => ?_
  simp (disch := omega) [-hset_if, -Bool.decide_and, hset_ne]
  try rw [show (Value.agg #[.string p.nm, .int .i64 p.per, p.nv, p.dv]).cells.toList = [.string p.nm, .int .i64 p.per, p.nv, p.dv] from rfl]
  have hbx : hset n (.cells [.string p.nm, .int .i64 p.per, p.nv, p.dv] 25 1) H n = .cells [.string p.nm, .int .i64 p.per, p.nv, p.dv] 25 1 := hset_same _ _ _
  have hfr : ∀ i, i < n → hset n (.cells [.string p.nm, .int .i64 p.per, p.nv, p.dv] 25 1) H i = H i := fun i hi => hset_ne (by omega) _ _
  generalize hset n (.cells [.string p.nm, .int .i64 p.per, p.nv, p.dv] 25 1) H = H1 at *
  have hp1 : PrR H1 w0 D p := hp.frame (fun i hi => hfr i (hD i hi))
  have hnb := hp.nb
  have hD1 : ∀ i, D i → i < n + 1 := fun i hi => by have := hD i hi; omega
  refine awake_ok ?_
  simp (disch := omega) [-hset_if, -Bool.decide_and, hset_ne, hbx]
  refine Small_ok hp1 hD1 ?_
  cases hs : smallB p 64 with
  | false =>
    simp (disch := omega) [-hset_if, -Bool.decide_and, hset_ne, hs]
    refine Fin_id ?_
    exact hk _ _ (by omega) hfr
  | true =>
  have hib := small_ib hs
  have hsl := small_len hs
  simp (disch := omega) [-hset_if, -Bool.decide_and, hset_ne, hs, hbx]
  refine OCheck_ok hp1 hD1 hib ?_
  by_cases hc : checkP p = 0
  rotate_left
  · have hcb : (checkP p != 0) = true := by simpa using hc
    simp (disch := omega) [-hset_if, -Bool.decide_and, hset_ne, hcb]
    refine Fin_id ?_
    exact hk _ _ (by omega) hfr
  have hl := check_len hc
  have hfo := feeds_ok p.nds false hl
  have hfl := feeds_len p.nds false
  have hei := either_iff hfo
  simp (disch := omega) [-hset_if, -Bool.decide_and, hset_ne, hc, hbx]
  by_cases ho : (ofP p.nds).length < p.nds.length
  · have hcy : cycR (feedsP p.nds false) ≠ [] := fun e => by
      have := hei.2 e
      rw [hfl] at this
      unfold ofP at ho
      omega
    refine Of_ok hp1 hD1 hib (fun h => absurd hc h) ?_ (fun _ h => by omega)
    intro _ _ n2 H2 a1 a2
    have hp2 := hp1.frame (H' := H2) (fun i hi => a2 i (hD1 i hi))
    have hbx2 : H2 n = .cells [.string p.nm, .int .i64 p.per, p.nv, p.dv] 25 1 := by rw [a2 n (by omega)]; exact hbx
    simp (disch := omega) [-hset_if, -Bool.decide_and, hset_ne, hbx2]
    refine Cycle_ok hp2 (fun i hi => by have := hD i hi; omega) hib (fun h => absurd hc h) (fun _ h => absurd h hcy) ?_
    intro _ _ n3 H3 cv E3 b1 b2 b3 b4
    have hp3 := hp2.frame (H' := H3) (fun i hi => b2 i (by have := hD i hi; omega))
    have hbx3 : H3 n = .cells [.string p.nm, .int .i64 p.per, p.nv, p.dv] 25 1 := by rw [b2 n (by omega)]; exact hbx2
    simp (disch := omega) [-hset_if, -Bool.decide_and, hset_ne, hbx3]
    refine OFeeds_ok hp3 (fun i hi => by have := hD i hi; omega) hib (fun h => absurd hc h) ?_
    intro _ n4 H4 fv d1 d2 d3
    have hp4 := hp3.frame (H' := H4) (fun i hi => d2 i (by have := hD i hi; omega))
    have hbx4 : H4 n = .cells [.string p.nm, .int .i64 p.per, p.nv, p.dv] 25 1 := by rw [d2 n (by omega)]; exact hbx3
    have c4 := b4.sl.frame (H' := H4) (fun i hi => d2 i (b4.lt i hi))
    obtain ⟨w1, w2⟩ := cycR_way hcy
    have hcl : (cycR (feedsP p.nds false)).length ≤ 64 := by
      have := best_len (feedsP p.nds false) (feedsP p.nds false).length
      rw [best_ref, hfl] at this
      omega
    have hfr4 : ∀ i, i < n → H4 i = H i := fun i hi => by rw [d2 i (by omega), b2 i (by omega), a2 i (by omega), hfr i hi]
    clear hei a2 b2 b4
    generalize feedsP p.nds false = fs at *
    generalize cycR fs = c at *
    have hc1 : 0 < c.length := w1.ne
    have hc2 : ((c.length : Int) == 0) = false := by rw [beq_eq_false_iff_ne]; omega
    have hlk := d3.lenK
    rw [hfl] at hlk
    obtain ⟨rs, hrs, r1, r2⟩ := d3
    have hrl : rs.length = fs.length := by rw [← hrs, List.length_map]
    simp (disch := omega) [-hset_if, -Bool.decide_and, hset_ne, c4.lenK, hc2, hlk, hbx4, hp4.ns.lenK]
    refine AW.while (σ := Nat) (fun k => c.length - k) (fun k => [(5, cv), (7, fv), (9, .int .i64 (k : Int))])
      (fun k n5 H5 => n5 = n4 ∧ H5 = H4 ∧ k ≤ c.length) 0 ?_ ?_ ?_
    · simp (disch := omega) [-hset_if, -Bool.decide_and, hset_ne]
    · exact ⟨rfl, rfl, by omega⟩
    rintro k n6 H6 ⟨rfl, rfl, g1⟩
    simp (disch := omega) [-hset_if, -Bool.decide_and, hset_ne, c4.lenK]
    refine cif_dec (fun e1 => ?_) (fun e1 => ?_)
    · obtain ⟨k2, hk2⟩ : ∃ k2 : Nat, k2 = if k + 1 = c.length then 0 else k + 1 := ⟨_, rfl⟩
      have hk2l : k2 < c.length := by rw [hk2]; split <;> omega
      have hrm := rem_next e1
      rw [← hk2] at hrm
      have hx := w1.rng _ (at_mem (l := c) (j := k2) hk2l)
      have hfed : at_ c (k : Int) ∈ at_ fs (at_ c (k2 : Int)) := by
        rw [hk2]
        split
        · rename_i e
          have := w2
          unfold lastI at this
          rw [show c.length - 1 = k by omega] at this
          exact this
        · exact w1.ch k (by omega)
      obtain ⟨x, hxe⟩ : ∃ x : Nat, at_ c (k2 : Int) = (x : Int) := ⟨(at_ c (k2 : Int)).toNat, by omega⟩
      rw [hxe] at hx hfed
      have hgt : 0 < k → at_ c 0 < at_ c (k : Int) := fun h => w1.gt k h e1
      have f1 : ¬ at_ c (k : Int) < at_ c 0 := by
        by_cases e : k = 0
        · subst e
          exact Int.lt_irrefl _
        · have := hgt (by omega); omega
      have f2 : ¬ (p.nds.length : Int) ≤ (x : Int) := by omega
      have f3 : ¬ p.nds.length ≤ x := by omega
      have hxr : x < rs.length := by omega
      have hxf : at_ fs (x : Int) = (at_ rs (x : Int)).2 := by rw [← hrs]; exact at_map hxr
      have r2x := r2 _ (at_mem hxr)
      rw [← hxf] at r2x
      have hln := hfo.len x (by omega)
      simp (disch := omega) [-hset_if, -Bool.decide_and, hset_ne, c4.lenK, hrm]
      refine ⟨fun e => by rw [e] at hc1; simp at hc1, ?_⟩
      have f4 : ¬ (x : Int) < 0 := by omega
      simp (disch := omega) [-hset_if, -Bool.decide_and, hset_ne, c4.ix elemS35, c4.load0 shp3, hxe]
      by_cases e0 : k = 0
      · have e1 : ¬ 0 < k := by omega
        refine AW.draw (X := ⟨_, 148, _, _⟩) (id := 18) mixed (.take 0 <| .take 1 <| .take 2 <| .take 3 <| .take 4 <| .take 5 <| .take 6 <| .take 7 <| .take 8 <| .take 9 <| .take 10 <| .take 11 <| .take 12 <| .take 13 <| .take 14 <| .take 15 <| .take 16 <| .take 17 <| .take 18 <| .take 19 <| .take 20 <| .take 21 <| .take 22 <| .take 23 <| .take 24 <| .take 25 <| .take 26 <| .take 27 <| .take 28 <| .take 29 <| .take 30 <| .take 31 <| .done) (by kernel_rfl) ?_
        simp (disch := omega) [-hset_if, -Bool.decide_and, hset_ne, f4, hlk, f2, f3, c4.ix elemS35, c4.load0 shp3, f1, e1]
        refine AW.while (σ := Nat) (fun j => (at_ fs (x : Int)).length - j) (fun j => [(5, cv), (7, fv), (9, .int .i64 (k : Int)), (10, .int .i64 (x : Int)), (11, .bool (((at_ fs (x : Int)).take j).any fun y => y == at_ c (k : Int))), (12, .int .i64 (j : Int))])
          (fun j n5 H5 => n5 = n6 ∧ H5 = H6 ∧ j ≤ (at_ fs (x : Int)).length) 0 ?_ ?_ ?_
        · simp (disch := omega) [-hset_if, -Bool.decide_and, hset_ne]
        · exact ⟨rfl, rfl, by omega⟩
        rintro j _ _ ⟨rfl, rfl, l1⟩
        simp (disch := omega) [-hset_if, -Bool.decide_and, hset_ne, r1.ix elemS30, r1.load0 shp35, r2x.lenK]
        refine cif_dec (fun l2 => ?_) (fun l2 => ?_)
        · have hnx := any_next (f := fun y : Int => y == at_ c (k : Int)) l2
          cases l3 : ((at_ fs (x : Int)).take j).any fun y => y == at_ c (k : Int) with
          | true =>
            rw [l3, Bool.true_or] at hnx
            simp (disch := omega) [-hset_if, -Bool.decide_and, hset_ne]
            refine AW.draw (X := ⟨_, 148, _, _⟩) (id := 24) mixed (.take 0 <| .take 1 <| .take 2 <| .take 3 <| .take 4 <| .take 5 <| .take 6 <| .take 7 <| .take 8 <| .take 9 <| .take 10 <| .take 11 <| .take 12 <| .take 13 <| .take 14 <| .take 15 <| .done) (by kernel_rfl) ?_
            simp (disch := omega) [-hset_if, -Bool.decide_and, hset_ne, l3]
            exact Next.mk (j + 1) (by first | omega | (dsimp only; omega)) (by rw [hnx]; simp (disch := omega) [-hset_if, -Bool.decide_and, hset_ne]) ⟨rfl, rfl, by omega⟩
          | false =>
            rw [l3, Bool.false_or] at hnx
            simp (disch := omega) [-hset_if, -Bool.decide_and, hset_ne]
            refine AW.draw (X := ⟨_, 148, _, _⟩) (id := 24) mixed (.take 0 <| .take 1 <| .take 2 <| .take 3 <| .take 4 <| .take 5 <| .take 6 <| .take 7 <| .take 8 <| .take 9 <| .take 10 <| .take 11 <| .take 12 <| .take 13 <| .take 14 <| .take 15 <| .done) (by kernel_rfl) ?_
            simp (disch := omega) [-hset_if, -Bool.decide_and, hset_ne, l3, r1.ix elemS30, r1.load0 shp35, r2x.ix elemS35, r2x.load0 shp3, c4.ix elemS35, c4.load0 shp3]
            exact Next.mk (j + 1) (by first | omega | (dsimp only; omega)) (by rw [hnx]; simp (disch := omega) [-hset_if, -Bool.decide_and, hset_ne]) ⟨rfl, rfl, by omega⟩
        · have l3 : j = (at_ fs (x : Int)).length := by omega
          have l4 : ((at_ fs (x : Int)).take j).any (fun y => y == at_ c (k : Int)) = true := by
            rw [l3, List.take_length, List.any_eq_true]
            exact ⟨_, hfed, by simp⟩
          rw [l4]
          simp (disch := omega) [-hset_if, -Bool.decide_and, hset_ne]
          exact Next.mk (k + 1) (by first | omega | (dsimp only; omega)) (by simp (disch := omega) [-hset_if, -Bool.decide_and, hset_ne]) ⟨rfl, rfl, by omega⟩
      · have e1 : 0 < k := by omega
        have e2 : (at_ c (k : Int) == at_ c 0) = false := by rw [beq_eq_false_iff_ne]; have := hgt e1; omega
        refine AW.draw (X := ⟨_, 148, _, _⟩) (id := 18) mixed (.take 0 <| .take 1 <| .take 2 <| .take 3 <| .take 4 <| .take 5 <| .take 6 <| .take 7 <| .take 8 <| .take 9 <| .take 10 <| .take 11 <| .take 12 <| .take 13 <| .take 14 <| .take 15 <| .take 16 <| .take 17 <| .take 18 <| .take 19 <| .take 20 <| .take 21 <| .take 22 <| .take 23 <| .take 24 <| .take 25 <| .take 26 <| .take 27 <| .take 28 <| .take 29 <| .take 30 <| .take 31 <| .done) (by kernel_rfl) ?_
        simp (disch := omega) [-hset_if, -Bool.decide_and, hset_ne, f4, hlk, f2, f3, c4.ix elemS35, c4.load0 shp3, f1, e1, e2]
        refine AW.while (σ := Nat) (fun j => (at_ fs (x : Int)).length - j) (fun j => [(5, cv), (7, fv), (9, .int .i64 (k : Int)), (10, .int .i64 (x : Int)), (11, .bool (((at_ fs (x : Int)).take j).any fun y => y == at_ c (k : Int))), (12, .int .i64 (j : Int))])
          (fun j n5 H5 => n5 = n6 ∧ H5 = H6 ∧ j ≤ (at_ fs (x : Int)).length) 0 ?_ ?_ ?_
        · simp (disch := omega) [-hset_if, -Bool.decide_and, hset_ne]
        · exact ⟨rfl, rfl, by omega⟩
        rintro j _ _ ⟨rfl, rfl, l1⟩
        simp (disch := omega) [-hset_if, -Bool.decide_and, hset_ne, r1.ix elemS30, r1.load0 shp35, r2x.lenK]
        refine cif_dec (fun l2 => ?_) (fun l2 => ?_)
        · have hnx := any_next (f := fun y : Int => y == at_ c (k : Int)) l2
          cases l3 : ((at_ fs (x : Int)).take j).any fun y => y == at_ c (k : Int) with
          | true =>
            rw [l3, Bool.true_or] at hnx
            simp (disch := omega) [-hset_if, -Bool.decide_and, hset_ne]
            refine AW.draw (X := ⟨_, 148, _, _⟩) (id := 24) mixed (.take 0 <| .take 1 <| .take 2 <| .take 3 <| .take 4 <| .take 5 <| .take 6 <| .take 7 <| .take 8 <| .take 9 <| .take 10 <| .take 11 <| .take 12 <| .take 13 <| .take 14 <| .take 15 <| .done) (by kernel_rfl) ?_
            simp (disch := omega) [-hset_if, -Bool.decide_and, hset_ne, l3]
            exact Next.mk (j + 1) (by first | omega | (dsimp only; omega)) (by rw [hnx]; simp (disch := omega) [-hset_if, -Bool.decide_and, hset_ne]) ⟨rfl, rfl, by omega⟩
          | false =>
            rw [l3, Bool.false_or] at hnx
            simp (disch := omega) [-hset_if, -Bool.decide_and, hset_ne]
            refine AW.draw (X := ⟨_, 148, _, _⟩) (id := 24) mixed (.take 0 <| .take 1 <| .take 2 <| .take 3 <| .take 4 <| .take 5 <| .take 6 <| .take 7 <| .take 8 <| .take 9 <| .take 10 <| .take 11 <| .take 12 <| .take 13 <| .take 14 <| .take 15 <| .done) (by kernel_rfl) ?_
            simp (disch := omega) [-hset_if, -Bool.decide_and, hset_ne, l3, r1.ix elemS30, r1.load0 shp35, r2x.ix elemS35, r2x.load0 shp3, c4.ix elemS35, c4.load0 shp3]
            exact Next.mk (j + 1) (by first | omega | (dsimp only; omega)) (by rw [hnx]; simp (disch := omega) [-hset_if, -Bool.decide_and, hset_ne]) ⟨rfl, rfl, by omega⟩
        · have l3 : j = (at_ fs (x : Int)).length := by omega
          have l4 : ((at_ fs (x : Int)).take j).any (fun y => y == at_ c (k : Int)) = true := by
            rw [l3, List.take_length, List.any_eq_true]
            exact ⟨_, hfed, by simp⟩
          rw [l4]
          simp (disch := omega) [-hset_if, -Bool.decide_and, hset_ne]
          exact Next.mk (k + 1) (by first | omega | (dsimp only; omega)) (by simp (disch := omega) [-hset_if, -Bool.decide_and, hset_ne]) ⟨rfl, rfl, by omega⟩
    · simp (disch := omega) [-hset_if, -Bool.decide_and, hset_ne]
      refine Fin_id ?_
      exact hk _ _ (by omega) hfr4
  · have hoe : (ofP p.nds).length = p.nds.length := by have := ofP_len p.nds; omega
    have hcy : cycR (feedsP p.nds false) = [] := hei.1 (by rw [hfl]; exact hoe)
    have hva : validP p (ofP p.nds) = true := by
      unfold validP
      rw [decide_eq_true hc, decide_eq_true hoe, (valid_iff (by rw [hfl]; exact hoe)).2 (ofP_all hl hoe).1]; rfl
    refine Of_ok hp1 hD1 hib (fun h => absurd hc h) (fun _ h => absurd h ho) ?_
    intro _ _ n2 H2 ov E2 a1 a2 a3 a4
    have hp2 := hp1.frame (H' := H2) (fun i hi => a2 i (hD1 i hi))
    have hbx2 : H2 n = .cells [.string p.nm, .int .i64 p.per, p.nv, p.dv] 25 1 := by rw [a2 n (by omega)]; exact hbx
    simp (disch := omega) [-hset_if, -Bool.decide_and, hset_ne, hbx2]
    refine Cycle_ok hp2 (fun i hi => by have := hD i hi; omega) hib (fun h => absurd hc h) ?_ (fun _ h => absurd hcy h)
    intro _ _ n3 H3 b1 b2
    have hp3 := hp2.frame (H' := H3) (fun i hi => b2 i (by have := hD i hi; omega))
    have hbx3 : H3 n = .cells [.string p.nm, .int .i64 p.per, p.nv, p.dv] 25 1 := by rw [b2 n (by omega)]; exact hbx2
    simp (disch := omega) [-hset_if, -Bool.decide_and, hset_ne, hbx3]
    refine OFeeds_ok hp3 (fun i hi => by have := hD i hi; omega) hib (fun h => absurd hc h) ?_
    intro _ n4 H4 fv d1 d2 d3
    have hp4 := hp3.frame (H' := H4) (fun i hi => d2 i (by have := hD i hi; omega))
    have hbx4 : H4 n = .cells [.string p.nm, .int .i64 p.per, p.nv, p.dv] 25 1 := by rw [d2 n (by omega)]; exact hbx3
    have o4 := a4.sl.frame (H' := H4) (fun i hi => by have := a4.lt i hi; rw [d2 i (by omega), b2 i (by omega)])
    have hlt := a4.lt
    simp (disch := omega) [-hset_if, -Bool.decide_and, hset_ne, hbx4]
    refine Valid_ok hp4 (fun i hi => by have := hD i hi; omega) hib o4 (fun i hi => by have := hlt i hi; omega) (by omega) ?_
    rw [hva]
    simp (disch := omega) [-hset_if, -Bool.decide_and, hset_ne]
    refine Fin_id ?_
    exact hk _ _ (by omega) (fun i hi => by rw [d2 i (by omega), b2 i (by omega), a2 i (by omega), hfr i hi])
end Go.Aw.S25
/-
  Chapter 25: exchanges and levels, plain.
-/
namespace Go.Aw.S25
open Go.RowKit Go.Proofs Go.Aw.Tab
set_option linter.unusedSimpArgs false
set_option linter.unusedVariables false
theorem nodup_sub : ∀ (a b : List Int), a.Nodup → (∀ x ∈ a, x ∈ b) → a.length ≤ b.length
  | [], b, _, _ => by simp
  | x :: r, b, hn, hb => by
    rw [List.nodup_cons] at hn
    have := nodup_sub r (b.erase x) hn.2 (fun y hy => (List.mem_erase_of_ne (fun e => hn.1 (by rw [← e]; exact hy))).2 (hb y (by simp [hy])))
    have hx := hb x (by simp)
    rw [List.length_erase_of_mem hx] at this
    have := List.length_pos_of_mem hx
    simp only [List.length_cons]
    omega
theorem mem_take {l : List Int} {x : Int} {j : Nat} : x ∈ l.take j ↔ ∃ i : Nat, i < j ∧ i < l.length ∧ at_ l (i : Int) = x := by
  constructor
  · intro h
    obtain ⟨i, hi, e⟩ := mem_at h
    rw [List.length_take] at hi
    refine ⟨i, by omega, by omega, ?_⟩
    rw [← e, at_nat (by omega), at_nat (by rw [List.length_take]; omega), List.getElem_take]
  · rintro ⟨i, h1, h2, rfl⟩
    rw [at_nat h2]
    exact List.mem_take_iff_getElem.2 ⟨i, by omega, rfl⟩
theorem ready_ext {f a b : List Int} (h : ∀ x ∈ f, x ∈ a → x ∈ b) (hr : readyB f a = true) : readyB f b = true := by
  unfold readyB at *
  rw [List.all_eq_true] at *
  intro x hx
  exact decide_eq_true (h x hx (of_decide_eq_true (hr x hx)))
theorem ready_mem {f a : List Int} (h : readyB f a = true) {x : Int} (hx : x ∈ f) : x ∈ a := by
  unfold readyB at h
  rw [List.all_eq_true] at h
  exact of_decide_eq_true (h x hx)
theorem PosOk.inj {fs : List (List Int)} {l : List Int} (h : PosOk fs l) {i j : Nat} (hi : i < l.length) (hj : j < l.length) (e : at_ l (i : Int) = at_ l (j : Int)) : i = j := by
  rcases Nat.lt_trichotomy i j with h1 | h1 | h1
  · exact absurd (mem_take.2 ⟨i, h1, hi, e⟩) (h.ok j hj).2.1
  · exact h1
  · exact absurd (mem_take.2 ⟨j, h1, hj, e.symm⟩) (h.ok i hi).2.1
/-- Two neighbours change places. -/
def swapL (l : List Int) (k : Nat) : List Int := (l.set k (at_ l ((k + 1 : Nat) : Int))).set (k + 1) (at_ l (k : Int))
theorem swap_len (l : List Int) (k : Nat) : (swapL l k).length = l.length := by simp [swapL]
theorem swap_at {l : List Int} {k j : Nat} (hj : j < l.length) : at_ (swapL l k) (j : Int) = if j = k then at_ l ((k + 1 : Nat) : Int) else if j = k + 1 then at_ l (k : Int) else at_ l (j : Int) := by
  unfold swapL
  rw [at_set (by rw [List.length_set]; exact hj), at_set hj]
  by_cases e1 : j = k
  · subst e1
    rw [if_neg (by omega), if_pos rfl, if_pos rfl]
  · by_cases e2 : j = k + 1
    · subst e2; rw [if_pos rfl, if_neg e1, if_pos rfl]
    · rw [if_neg (fun e => e2 e.symm), if_neg (fun e => e1 e.symm), if_neg e1, if_neg e2]
theorem swap_take {l : List Int} {k j : Nat} (hk : k + 1 < l.length) (hj : j ≠ k + 1) {x : Int} : x ∈ (swapL l k).take j ↔ x ∈ l.take j := by
  rw [mem_take, mem_take, swap_len]
  constructor
  · rintro ⟨i, h1, h2, e⟩
    rw [swap_at h2] at e
    by_cases e1 : i = k
    · rw [if_pos e1] at e; exact ⟨k + 1, by omega, hk, e⟩
    · rw [if_neg e1] at e
      by_cases e2 : i = k + 1
      · rw [if_pos e2] at e; exact ⟨k, by omega, by omega, e⟩
      · rw [if_neg e2] at e; exact ⟨i, h1, h2, e⟩
  · rintro ⟨i, h1, h2, e⟩
    by_cases e1 : i = k
    · subst e1
      exact ⟨i + 1, by omega, hk, by rw [swap_at hk, if_neg (by omega), if_pos rfl]; exact e⟩
    · by_cases e2 : i = k + 1
      · subst e2
        exact ⟨k, by omega, by omega, by rw [swap_at (by omega), if_pos rfl]; exact e⟩
      · exact ⟨i, h1, h2, by rw [swap_at h2, if_neg e1, if_neg e2]; exact e⟩
theorem swap_ok {fs : List (List Int)} {l : List Int} (h : PosOk fs l) {k : Nat} (hk : k + 1 < l.length) : PosOk fs (swapL l k) ↔ at_ l (k : Int) ∉ at_ fs (at_ l ((k + 1 : Nat) : Int)) := by
  obtain ⟨a1, a2, a3⟩ := h.ok k (by omega)
  obtain ⟨b1, b2, b3⟩ := h.ok (k + 1) hk
  have hne : at_ l (k : Int) ≠ at_ l ((k + 1 : Nat) : Int) := fun e => by have := h.inj (by omega) hk e; omega
  have htk : ∀ x, x ∈ l.take (k + 1) ↔ x ∈ l.take k ∨ x = at_ l (k : Int) := fun x => by rw [take_next (by omega)]; simp
  constructor
  · intro hs hf
    obtain ⟨_, _, c3⟩ := hs.ok k (by rw [swap_len]; omega)
    rw [swap_at (by omega), if_pos rfl] at c3
    have := ready_mem c3 hf
    rw [swap_take hk (by omega)] at this
    exact a2 this
  · intro hf
    refine ⟨fun j hj => ?_⟩
    rw [swap_len] at hj
    rw [swap_at hj]
    by_cases e1 : j = k
    · subst e1
      rw [if_pos rfl]
      refine ⟨b1, fun hm => ?_, ?_⟩
      · rw [swap_take hk (by omega)] at hm
        exact b2 ((htk _).2 (.inl hm))
      · refine ready_ext (fun x hx hm => ?_) b3
        rw [swap_take hk (by omega)]
        rcases (htk x).1 hm with h1 | h1
        · exact h1
        · subst h1; exact absurd hx hf
    · rw [if_neg e1]
      by_cases e2 : j = k + 1
      · subst e2
        rw [if_pos rfl]
        have hts : ∀ x, x ∈ (swapL l k).take (k + 1) ↔ x ∈ l.take k ∨ x = at_ l ((k + 1 : Nat) : Int) := fun x => by
          rw [take_next (by rw [swap_len]; omega), List.mem_append, swap_take hk (by omega), swap_at (by omega), if_pos rfl]
          simp
        refine ⟨a1, fun hm => ?_, ready_ext (fun x hx hm => (hts x).2 (.inl hm)) a3⟩
        rcases (hts _).1 hm with h1 | h1
        · exact a2 h1
        · exact hne h1
      · rw [if_neg e2]
        obtain ⟨c1, c2, c3⟩ := h.ok j hj
        exact ⟨c1, fun hm => c2 ((swap_take hk e2).1 hm), ready_ext (fun x _ hm => (swap_take hk e2).2 hm) c3⟩
/-- No order is before the greedy one. -/
theorem order_least {fs : List (List Int)} (hfs : GfOk fs) {l : List Int} (hl : l.length = fs.length) (h : PosOk fs l) {i : Nat} (hi : i < fs.length) (heq : ∀ q : Nat, q < i → at_ (ordP fs fs.length).2 (q : Int) = at_ l (q : Int)) (hne : at_ (ordP fs fs.length).2 (i : Int) ≠ at_ l (i : Int)) :
    at_ (ordP fs fs.length).2 (i : Int) < at_ l (i : Int) := by
  have hfull := order_full hfs hl h
  have hstuck : ∀ d k, ordP fs (k + 1) = ordP fs k → ordP fs (k + d) = ordP fs k := by
    intro d k hk
    induction d with
    | zero => rfl
    | succ d ih =>
      rw [show k + (d + 1) = k + d + 1 by omega]
      show stepO fs (ordP fs (k + d)) = _
      rw [ih]; exact hk
  have hlen : (ordP fs i).2.length = i := by
    rcases ordP_full hfs i with e | ⟨e, _⟩
    · exact e
    · have := hstuck (fs.length - i) i e
      rw [show i + (fs.length - i) = fs.length by omega] at this
      rw [this] at hfull
      have := (ordP_len fs i).2
      omega
  rcases ordP_step hfs i with ⟨j, _, h1, h2, h3, h4, h5⟩ | ⟨_, e, _⟩
  rotate_left
  · exfalso
    have := hstuck (fs.length - i) i e
    rw [show i + (fs.length - i) = fs.length by omega] at this
    rw [this] at hfull
    omega
  have hpi := ordP_pre hfs i (fs.length - i)
  rw [show i + (fs.length - i) = fs.length by omega] at hpi
  have hp1 := ordP_pre hfs (i + 1) (fs.length - (i + 1))
  rw [show i + 1 + (fs.length - (i + 1)) = fs.length by omega, h4] at hp1
  have hoi : at_ (ordP fs fs.length).2 (i : Int) = (j : Int) := by
    rw [prefix_at hp1 (by simp; omega), at_nat (by simp; omega)]
    simp [hlen]
  have htake : (ordP fs i).2 = l.take i := by
    refine List.ext_getElem (by rw [hlen, List.length_take]; omega) fun q g1 g2 => ?_
    have hqi : q < i := by omega
    have h6 := heq q hqi
    rw [prefix_at hpi (by omega), at_nat (by omega), at_nat (by omega)] at h6
    rw [h6, List.getElem_take]
  obtain ⟨b1, b2, b3⟩ := h.ok i (by omega)
  obtain ⟨y, hy⟩ : ∃ y : Nat, at_ l (i : Int) = (y : Int) := ⟨(at_ l (i : Int)).toNat, by omega⟩
  rw [hoi] at hne ⊢
  rw [hy] at hne b2 b3 ⊢
  apply Decidable.byContradiction
  intro hnlt
  have := h5 y (by omega) (by rw [htake]; exact b2)
  rw [htake, b3] at this
  cases this
/-! ### Levels -/
def mxF (F l : List Int) : Int := l.foldl (fun a x => max a (1 + at_ F x)) 0
theorem foldl_mx_ge (F : List Int) : ∀ (l : List Int) (a : Int), a ≤ l.foldl (fun a x => max a (1 + at_ F x)) a ∧ ∀ x ∈ l, 1 + at_ F x ≤ l.foldl (fun a x => max a (1 + at_ F x)) a
  | [], a => ⟨Int.le_refl _, by simp⟩
  | y :: r, a => by
    obtain ⟨h1, h2⟩ := foldl_mx_ge F r (max a (1 + at_ F y))
    simp only [List.foldl_cons]
    refine ⟨by omega, fun x hx => ?_⟩
    rcases List.mem_cons.1 hx with e | hx
    · subst e; omega
    · exact h2 x hx
theorem foldl_mx_le (F : List Int) (b : Int) : ∀ (l : List Int) (a : Int), a ≤ b → (∀ x ∈ l, 1 + at_ F x ≤ b) → l.foldl (fun a x => max a (1 + at_ F x)) a ≤ b
  | [], a, h, _ => h
  | y :: r, a, h, hl => by
    simp only [List.foldl_cons]
    exact foldl_mx_le F b r _ (by have := hl y (by simp); omega) (fun x hx => hl x (by simp [hx]))
theorem foldl_mx_ext {F G : List Int} : ∀ (l : List Int) (a : Int), (∀ x ∈ l, at_ F x = at_ G x) → l.foldl (fun a x => max a (1 + at_ F x)) a = l.foldl (fun a x => max a (1 + at_ G x)) a
  | [], _, _ => rfl
  | y :: r, a, h => by
    simp only [List.foldl_cons]
    rw [h y (by simp)]
    exact foldl_mx_ext r _ (fun x hx => h x (by simp [hx]))
theorem levN_at {fs : List (List Int)} {i : Nat} {o : List Int} (hi : i < o.length) (hx : ∀ x ∈ at_ fs (i : Int), (0 ≤ x ∧ x < o.length) ∧ x ≠ (i : Int)) : ∀ j : Nat, j ≤ (at_ fs (i : Int)).length →
    at_ (levN fs (i : Int) o j) (i : Int) = ((at_ fs (i : Int)).take j).foldl (fun a x => max a (1 + at_ o x)) (at_ o (i : Int)) ∧ ∀ q : Nat, q < o.length → q ≠ i → at_ (levN fs (i : Int) o j) (q : Int) = at_ o (q : Int)
  | 0, _ => by simp [levN]
  | j + 1, hj => by
    obtain ⟨h1, h2⟩ := levN_at hi hx j (by omega)
    have hl := levN_len fs (i : Int) o j
    have hy := hx _ (at_mem (l := at_ fs (i : Int)) (j := j) (by omega))
    obtain ⟨y, hye⟩ : ∃ y : Nat, at_ (at_ fs (i : Int)) (j : Int) = (y : Int) := ⟨(at_ (at_ fs (i : Int)) (j : Int)).toNat, by omega⟩
    unfold levN lev1
    rw [Int.toNat_natCast]
    refine ⟨?_, fun q hq hne => ?_⟩
    · rw [at_set (by omega), if_pos rfl, take_next (by omega), List.foldl_append, List.foldl_cons, List.foldl_nil, h1, hye]
      rw [hye] at hy
      rw [h2 y (by omega) (by omega)]
      omega
    · rw [at_set (by omega), if_neg (fun e => hne e.symm)]
      exact h2 q hq hne
structure LevI (fs : List (List Int)) (ord : List Int) (k : Nat) (o : List Int) : Prop where
  rest : ∀ q : Nat, q < fs.length → (q : Int) ∉ ord.take k → at_ o (q : Int) = 0
  done : ∀ q : Nat, q < fs.length → (q : Int) ∈ ord.take k → at_ o (q : Int) = mxF o (at_ fs (q : Int))
  bnd : ∀ j : Nat, j < k → 0 ≤ at_ o (at_ ord (j : Int)) ∧ at_ o (at_ ord (j : Int)) ≤ j
theorem levM_inv {fs : List (List Int)} (hfs : GfOk fs) {ord : List Int} (h : PosOk fs ord) : ∀ k : Nat, k ≤ ord.length → LevI fs ord k (levM fs ord k)
  | 0, _ => ⟨fun q hq _ => by unfold levM; rw [at_nat (by simpa using hq)]; simp, fun q _ hq => by simp at hq, fun j hj => by omega⟩
  | k + 1, hk => by
    obtain ⟨g1, g2, g3⟩ := levM_inv hfs h k (by omega)
    obtain ⟨b1, b2, b3⟩ := h.ok k (by omega)
    obtain ⟨i, hi⟩ : ∃ i : Nat, at_ ord (k : Int) = (i : Int) := ⟨(at_ ord (k : Int)).toNat, by omega⟩
    have hl := levM_len fs ord k
    rw [hi] at b1 b2 b3
    have hx : ∀ x ∈ at_ fs (i : Int), (0 ≤ x ∧ x < (levM fs ord k).length) ∧ x ≠ (i : Int) := fun x hx => by
      have := hfs.rng i (by omega) x hx
      have hm := ready_mem b3 hx
      exact ⟨by omega, fun e => b2 (by rw [← e]; exact hm)⟩
    have hlv := levN_at (fs := fs) (i := i) (o := levM fs ord k) (by omega) hx (at_ fs (i : Int)).length (Nat.le_refl _)
    have hst : levM fs ord (k + 1) = levN fs (i : Int) (levM fs ord k) (at_ fs (i : Int)).length := by show levN fs (at_ ord (k : Int)) _ _ = _; rw [hi]
    rw [List.take_length] at hlv
    rw [hst]
    generalize levM fs ord k = o at *
    obtain ⟨l1, l2⟩ := hlv
    rw [g1 i (by omega) b2] at l1
    generalize levN fs (i : Int) o (at_ fs (i : Int)).length = o' at *
    have hkeep : ∀ x : Int, x ∈ ord.take k → at_ o' x = at_ o x := fun x hx => by
      obtain ⟨j, j1, j2, e⟩ := mem_take.1 hx
      have hr := (h.ok j j2).1
      rw [e] at hr
      obtain ⟨q, rfl⟩ : ∃ q : Nat, x = (q : Int) := ⟨x.toNat, by omega⟩
      exact l2 q (by omega) (fun e => b2 (by rw [← e]; exact hx))
    have htk : ∀ x, x ∈ ord.take (k + 1) ↔ x ∈ ord.take k ∨ x = (i : Int) := fun x => by rw [take_next (by omega), hi]; simp
    refine ⟨fun q hq hn => ?_, fun q hq hm => ?_, fun j hj => ?_⟩
    · have hn' : (q : Int) ∉ ord.take k ∧ (q : Int) ≠ (i : Int) := ⟨fun e => hn ((htk _).2 (.inl e)), fun e => hn ((htk _).2 (.inr e))⟩
      rw [l2 q (by omega) (by omega)]
      exact g1 q hq hn'.1
    · rcases (htk _).1 hm with hm | hm
      · rw [hkeep _ hm, g2 q hq hm]
        unfold mxF
        refine foldl_mx_ext _ _ (fun x hx => ?_)
        obtain ⟨j, j1, j2, e⟩ := mem_take.1 hm
        have hr := (h.ok j j2).2.2
        rw [e] at hr
        have := ready_mem hr hx
        rw [hkeep x (by
          obtain ⟨j', e1, e2, e3⟩ := mem_take.1 this
          exact mem_take.2 ⟨j', by omega, e2, e3⟩)]
      · have : q = i := by omega
        subst this
        rw [l1]
        unfold mxF
        exact foldl_mx_ext _ _ (fun x hx => (hkeep x (ready_mem b3 hx)).symm)
    · by_cases e : j < k
      · rw [hkeep _ (mem_take.2 ⟨j, e, by omega, rfl⟩)]
        exact g3 j e
      · have : j = k := by omega
        subst this
        rw [hi, l1]
        refine ⟨(foldl_mx_ge o _ 0).1, foldl_mx_le o _ _ _ (by omega) (fun x hx => ?_)⟩
        obtain ⟨j', e1, e2, e3⟩ := mem_take.1 (ready_mem b3 hx)
        have := g3 j' e1
        rw [e3] at this
        omega
/-- Levels: what they are. -/
structure LevOk (fs : List (List Int)) (F : List Int) : Prop where
  len : F.length = fs.length
  eq : ∀ q : Nat, q < fs.length → at_ F (q : Int) = mxF F (at_ fs (q : Int))
  bnd : ∀ q : Nat, q < fs.length → 0 ≤ at_ F (q : Int) ∧ at_ F (q : Int) < fs.length
theorem lev_ok {l : List Nd} (hl : l.length ≤ 64) (h : (ofP l).length = l.length) : LevOk (feedsP l false) (levP l) := by
  obtain ⟨hp, hall⟩ := ofP_all hl h
  obtain ⟨g1, g2, g3⟩ := levM_inv (feeds_ok l false hl) hp (ofP l).length (Nat.le_refl _)
  rw [List.take_length] at g1 g2
  have hfl := feeds_len l false
  refine ⟨levM_len _ _ _, fun q hq => g2 q hq (hall q (by omega)), fun q hq => ?_⟩
  obtain ⟨j, hj, e⟩ := mem_at (hall q (by omega))
  have := g3 j hj
  rw [e] at this
  unfold levP
  omega
/-- Nodes sorted by level: those below a level, and of it those below i. -/
def lvOf (F : List Int) (m k : Nat) : List Int := selP (fun i => decide (at_ F (i : Int) = (k : Int))) m
def srtP (F : List Int) (m : Nat) : Nat → List Int
  | 0 => []
  | k + 1 => srtP F m k ++ lvOf F m k
theorem lvOf_mem {F : List Int} {m k : Nat} {x : Int} : x ∈ lvOf F m k ↔ ∃ q : Nat, q < m ∧ at_ F (q : Int) = (k : Int) ∧ x = (q : Int) := by
  unfold lvOf
  rw [selP_mem]
  simp
theorem srt_mem {F : List Int} {m : Nat} {x : Int} : ∀ {k : Nat}, x ∈ srtP F m k ↔ ∃ q : Nat, q < m ∧ (∃ lv : Nat, lv < k ∧ at_ F (q : Int) = (lv : Int)) ∧ x = (q : Int)
  | 0 => by simp [srtP]
  | k + 1 => by
    rw [srtP, List.mem_append, srt_mem, lvOf_mem]
    constructor
    · rintro (⟨q, h1, ⟨lv, h2, h3⟩, h4⟩ | ⟨q, h1, h2, h3⟩)
      · exact ⟨q, h1, ⟨lv, by omega, h3⟩, h4⟩
      · exact ⟨q, h1, ⟨k, by omega, h2⟩, h3⟩
    · rintro ⟨q, h1, ⟨lv, h2, h3⟩, h4⟩
      by_cases e : lv = k
      · subst e; exact .inr ⟨q, h1, h3, h4⟩
      · exact .inl ⟨q, h1, ⟨lv, by omega, h3⟩, h4⟩
theorem srt_pair {F : List Int} {m : Nat} : ∀ k : Nat, (srtP F m k).Pairwise fun x y => at_ F x < at_ F y ∨ (at_ F x = at_ F y ∧ x < y)
  | 0 => List.Pairwise.nil
  | k + 1 => by
    rw [srtP, List.pairwise_append]
    refine ⟨srt_pair k, ?_, fun a ha b hb => ?_⟩
    · unfold lvOf selP
      rw [List.pairwise_map]
      refine List.Pairwise.imp_of_mem ?_ (List.Pairwise.filter _ List.pairwise_lt_range)
      intro a b ha hb hab
      have h1 := (List.mem_filter.1 ha).2
      have h2 := (List.mem_filter.1 hb).2
      simp only [decide_eq_true_iff] at h1 h2
      right; omega
    · obtain ⟨q, h1, ⟨lv, h2, h3⟩, h4⟩ := srt_mem.1 ha
      obtain ⟨r, h5, h6, h7⟩ := lvOf_mem.1 hb
      subst h4 h7
      left; omega
theorem srt_ok {fs : List (List Int)} (hfs : GfOk fs) {F : List Int} (h : LevOk fs F) : (srtP F fs.length fs.length).length = fs.length ∧ PosOk fs (srtP F fs.length fs.length) := by
  have hpw := srt_pair (F := F) (m := fs.length) fs.length
  have hmem : ∀ x, x ∈ srtP F fs.length fs.length ↔ ∃ q : Nat, q < fs.length ∧ x = (q : Int) := fun x => by
    rw [srt_mem]
    constructor
    · rintro ⟨q, h1, _, h2⟩; exact ⟨q, h1, h2⟩
    · rintro ⟨q, h1, h2⟩
      have := h.bnd q h1
      exact ⟨q, h1, ⟨(at_ F (q : Int)).toNat, by omega, by omega⟩, h2⟩
  have hnd : (srtP F fs.length fs.length).Nodup := by
    unfold List.Nodup
    exact hpw.imp (fun h e => by subst e; omega)
  generalize srtP F fs.length fs.length = s at *
  have h1 := nodup_len fs.length s hnd (fun x hx => by obtain ⟨q, h1, rfl⟩ := (hmem x).1 hx; omega)
  have h2 : ((List.range fs.length).map fun (i : Nat) => (i : Int)).length ≤ s.length := nodup_sub _ _ (by
    unfold List.Nodup
    rw [List.pairwise_map]
    exact List.nodup_range.imp (fun h => by omega)) (fun x hx => by
    obtain ⟨q, hq, rfl⟩ := List.mem_map.1 hx
    exact (hmem _).2 ⟨q, by simpa using hq, rfl⟩)
  simp only [List.length_map, List.length_range] at h2
  refine ⟨by omega, ⟨fun j hj => ?_⟩⟩
  obtain ⟨q, hq, e⟩ := (hmem _).1 (at_mem (l := s) (j := j) hj)
  rw [List.pairwise_iff_getElem] at hpw
  have hord : ∀ i : Nat, i < j → at_ F (at_ s (i : Int)) < at_ F (at_ s (j : Int)) ∨ (at_ F (at_ s (i : Int)) = at_ F (at_ s (j : Int)) ∧ at_ s (i : Int) < at_ s (j : Int)) := fun i hi => by
    have := hpw i j (by omega) hj hi
    rwa [← at_nat (xs := s) (by omega), ← at_nat (xs := s) hj] at this
  refine ⟨by omega, fun hm => ?_, ?_⟩
  · obtain ⟨i, h3, h4, h5⟩ := mem_take.1 hm
    have := hord i h3
    rw [h5] at this
    omega
  · unfold readyB
    rw [List.all_eq_true]
    intro y hy
    refine decide_eq_true ?_
    rw [e] at hy hord
    have hyr := hfs.rng q hq y hy
    have hlt : 1 + at_ F y ≤ at_ F (q : Int) := by
      rw [h.eq q hq]
      exact (foldl_mx_ge F _ 0).2 y hy
    obtain ⟨z, rfl⟩ := at_drop0 (bs := []) hyr.1
    obtain ⟨i, hi, hie⟩ := mem_at ((hmem (z : Int)).2 ⟨z, by omega, rfl⟩)
    refine mem_take.2 ⟨i, ?_, hi, hie⟩
    apply Decidable.byContradiction
    intro hij
    by_cases e2 : i = j
    · subst e2
      rw [e] at hie
      rw [hie] at hlt; omega
    · have := hpw j i hj hi (by omega)
      rw [← at_nat (xs := s) hi, ← at_nat (xs := s) hj, e, hie] at this
      omega
end Go.Aw.S25
/-
  Chapter 25: exchanges.
-/
namespace Go.Aw.S25
open Go.RowKit Go.Proofs Go.Aw.Tab
set_option linter.unusedSimpArgs false
set_option linter.unusedVariables false
set_option maxRecDepth 10000
set_option maxHeartbeats 1000000
set_option pp.deepTerms false
set_option pp.deepTerms.threshold 4
set_option pp.maxSteps 1500
attribute [local simp] Lk.cells Nd.cells Dr.cells Pg.val intC boolC
variable {w0 : World} {n : Nat} {H : Heap} {K : Value → Nat → Heap → Prop} {p : Pg} {D E : Nat → Prop}
theorem exchangesLaw_ok {v : Value} {l : List Int} {x : Int} (hp : PrR H w0 D p) (hD : ∀ i, D i → i < n) (hv : SlR ⟨Try.prog, w0⟩ H E 1 intC v l) (hE : ∀ i, E i → i < n) (hll : l.length ≤ 9223372036854775807) (hk : ∀ n' H', n ≤ n' → (∀ i, i < n → H' i = H i) → K (.bool true) n' H') : ACall ⟨Try.prog, w0⟩ 8 [p.val, v, .int .i64 x] K n H := by
  refine ACall.run Try.func8 rfl Try.ntmps8 Try.results8 (by simp) fun J0 => ?_
  simp (disch := omega) [-hset_if, -Bool.decide_and, hset_ne]
  try rw [show (Value.agg #[.string p.nm, .int .i64 p.per, p.nv, p.dv]).cells.toList = [.string p.nm, .int .i64 p.per, p.nv, p.dv] from rfl]
  have hbx : hset n (.cells [.string p.nm, .int .i64 p.per, p.nv, p.dv] 25 1) H n = .cells [.string p.nm, .int .i64 p.per, p.nv, p.dv] 25 1 := hset_same _ _ _
  have hfr : ∀ i, i < n → hset n (.cells [.string p.nm, .int .i64 p.per, p.nv, p.dv] 25 1) H i = H i := fun i hi => hset_ne (by omega) _ _
  generalize hset n (.cells [.string p.nm, .int .i64 p.per, p.nv, p.dv] 25 1) H = H1 at *
  have hp1 : PrR H1 w0 D p := hp.frame (fun i hi => hfr i (hD i hi))
  have hnb := hp.nb
  have hD1 : ∀ i, D i → i < n + 1 := fun i hi => by have := hD i hi; omega
  refine awake_ok ?_
  simp (disch := omega) [-hset_if, -Bool.decide_and, hset_ne, hbx]
  refine Small_ok hp1 hD1 ?_
  cases hs : smallB p 64 with
  | false =>
    simp (disch := omega) [-hset_if, -Bool.decide_and, hset_ne, hs]
    refine Fin_id ?_
    exact hk _ _ (by omega) hfr
  | true =>
  have hib := small_ib hs
  have hsl := small_len hs
  simp (disch := omega) [-hset_if, -Bool.decide_and, hset_ne, hs, hbx]
  have hv1 : SlR ⟨Try.prog, w0⟩ H1 E 1 intC v l := hv.frame (fun i hi => hfr i (hE i hi))
  have hE1 : ∀ i, E i → i < n + 1 := fun i hi => by have := hE i hi; omega
  refine Valid_ok hp1 hD1 hib hv1 hE1 hll ?_
  cases hva : validP p l with
  | false =>
    simp (disch := omega) [-hset_if, -Bool.decide_and, hset_ne, hva]
    refine Fin_id ?_
    exact hk _ _ (by omega) hfr
  | true =>
  have hva' := hva
  unfold validP at hva'
  simp only [Bool.and_eq_true, decide_eq_true_iff] at hva'
  obtain ⟨⟨hc, hlen⟩, hvf⟩ := hva'
  have hl := check_len hc
  have hfo := feeds_ok p.nds false hl
  have hfl := feeds_len p.nds false
  have hpo := (valid_iff (by rw [hfl]; exact hlen)).1 hvf
  have hoe : (ofP p.nds).length = p.nds.length := by
    have := order_full hfo (by rw [hfl]; exact hlen) hpo
    rw [hfl] at this
    exact this
  have hleast : ∀ i : Nat, i < p.nds.length → (∀ q : Nat, q < i → at_ (ofP p.nds) (q : Int) = at_ l (q : Int)) → at_ (ofP p.nds) (i : Int) ≠ at_ l (i : Int) → at_ (ofP p.nds) (i : Int) < at_ l (i : Int) := fun i hi h1 h2 => by
    have := order_least hfo (l := l) (by rw [hfl]; exact hlen) hpo (i := i) (by rw [hfl]; exact hi)
    rw [hfl] at this
    exact this h1 h2
  simp (disch := omega) [-hset_if, -Bool.decide_and, hset_ne, hva, hbx]
  refine Of_ok hp1 hD1 hib (fun h => absurd hc h) (fun _ h => by omega) ?_
  intro _ _ n2 H2 ov E2 a1 a2 a3 a4
  have hp2 := hp1.frame (H' := H2) (fun i hi => a2 i (hD1 i hi))
  have hbx2 : H2 n = .cells [.string p.nm, .int .i64 p.per, p.nv, p.dv] 25 1 := by rw [a2 n (by omega)]; exact hbx
  simp (disch := omega) [-hset_if, -Bool.decide_and, hset_ne, hbx2]
  refine OFeeds_ok hp2 (fun i hi => by have := hD i hi; omega) hib (fun h => absurd hc h) ?_
  intro _ n4 H4 fv d1 d2 d3
  have hp4 := hp2.frame (H' := H4) (fun i hi => d2 i (by have := hD i hi; omega))
  have hbx4 : H4 n = .cells [.string p.nm, .int .i64 p.per, p.nv, p.dv] 25 1 := by rw [d2 n (by omega)]; exact hbx2
  have o4 := a4.sl.frame (H' := H4) (fun i hi => d2 i (a4.lt i hi))
  have hfr4 : ∀ i, i < n → H4 i = H i := fun i hi => by rw [d2 i (by omega), a2 i (by omega), hfr i hi]
  have v4 : SlR ⟨Try.prog, w0⟩ H4 E 1 intC v l := hv.frame (fun i hi => hfr4 i (hE i hi))
  have hE4 : ∀ i, E i → i < n4 := fun i hi => by have := hE i hi; omega
  obtain ⟨fs, hfs⟩ : ∃ fs, feedsP p.nds false = fs := ⟨_, rfl⟩
  rw [hfs] at d3 hfo hfl hpo
  have hlk := d3.lenK
  rw [hfl, ← hlen] at hlk
  obtain ⟨rs, hrs, r1, r2⟩ := d3
  have hrl : rs.length = fs.length := by rw [← hrs, List.length_map]
  have holk := o4.lenK
  rw [hoe, ← hlen] at holk
  have hol : (ofP p.nds).length = l.length := by omega
  clear a4 a2 d2 hva hvf
  generalize ofP p.nds = ord at *
  simp (disch := omega) [-hset_if, -Bool.decide_and, hset_ne, holk, hlk, v4.lenK]
  refine AW.while (σ := Nat) (fun k => l.length - k) (fun k => [(1, v), (2, .int .i64 x), (3, .pointer (some ⟨new n, 0, none⟩)), (7, ov), (9, fv), (11, .int .i64 (k : Int))])
    (fun k n5 H5 => n5 = n4 ∧ H5 = H4 ∧ k ≤ l.length ∧ ∀ q : Nat, q < k → at_ ord (q : Int) = at_ l (q : Int)) 0 ?_ ?_ ?_
  · simp (disch := omega) [-hset_if, -Bool.decide_and, hset_ne]
  · exact ⟨rfl, rfl, by omega, by omega⟩
  rintro k n6 H6 ⟨rfl, rfl, g1, g2⟩
  simp (disch := omega) [-hset_if, -Bool.decide_and, hset_ne, v4.lenK]
  refine cif_dec (fun e1 => ?_) (fun e1 => ?_)
  · by_cases e2 : at_ ord (k : Int) = at_ l (k : Int)
    · have e3 : (at_ ord (k : Int) != at_ l (k : Int)) = false := by simp [e2]
      simp (disch := omega) [-hset_if, -Bool.decide_and, hset_ne]
      refine AW.draw (X := ⟨_, 139, _, _⟩) (id := 12) mixed (.take 0 <| .take 1 <| .take 2 <| .take 3 <| .take 4 <| .take 5 <| .take 6 <| .take 7 <| .take 8 <| .done) (by kernel_rfl) ?_
      simp (disch := omega) [-hset_if, -Bool.decide_and, hset_ne, o4.ix elemS35, o4.load0 shp3, v4.ix elemS35, v4.load0 shp3, hol, e3]
      exact Next.mk (k + 1) (by first | omega | (dsimp only; omega)) (by simp (disch := omega) [-hset_if, -Bool.decide_and, hset_ne]) ⟨rfl, rfl, by omega, fun q hq => by
        by_cases e : q = k
        · subst e; exact e2
        · exact g2 q (by omega)⟩
    · have e3 : (at_ ord (k : Int) != at_ l (k : Int)) = true := by simpa using e2
      have e4 := hleast k (by omega) g2 e2
      have e5 : ¬ at_ l (k : Int) < at_ ord (k : Int) := by omega
      simp (disch := omega) [-hset_if, -Bool.decide_and, hset_ne]
      refine AW.draw (X := ⟨_, 139, _, _⟩) (id := 12) mixed (.take 0 <| .take 1 <| .take 2 <| .take 3 <| .take 4 <| .take 5 <| .take 6 <| .take 7 <| .take 8 <| .done) (by kernel_rfl) ?_
      simp (disch := omega) [-hset_if, -Bool.decide_and, hset_ne, o4.ix elemS35, o4.load0 shp3, v4.ix elemS35, v4.load0 shp3, hol, e3]
      refine AW.draw (X := ⟨_, 139, _, _⟩) (id := 13) mixed (.take 0 <| .take 1 <| .take 2 <| .take 3 <| .take 4 <| .take 5 <| .take 6 <| .take 7 <| .take 8 <| .done) (by kernel_rfl) ?_
      simp (disch := omega) [-hset_if, -Bool.decide_and, hset_ne, o4.ix elemS35, o4.load0 shp3, v4.ix elemS35, v4.load0 shp3, hol, e5]
      by_cases x0 : x < 0
      · simp (disch := omega) [-hset_if, -Bool.decide_and, hset_ne, x0]
        refine Fin_id ?_
        exact hk _ _ (by omega) hfr4
      by_cases x1 : (l.length : Int) - 1 ≤ x
      · simp (disch := omega) [-hset_if, -Bool.decide_and, hset_ne, x0, v4.lenK, x1]
        refine Fin_id ?_
        exact hk _ _ (by omega) hfr4
      obtain ⟨a, rfl⟩ := at_drop0 (bs := []) (x := x) (by omega)
      have ha : a + 1 < l.length := by omega
      simp (disch := omega) [-hset_if, -Bool.decide_and, hset_ne, x0, v4.lenK, x1]
      obtain ⟨ea, hea⟩ : ∃ e, at_ l (a : Int) = e := ⟨_, rfl⟩
      obtain ⟨eb, heb⟩ : ∃ e, at_ l ((a : Int) + 1) = e := ⟨_, rfl⟩
      have heb' : at_ l ((a + 1 : Nat) : Int) = eb := heb
      have hbr := (hpo.ok (a + 1) ha).1
      rw [heb'] at hbr
      obtain ⟨y, rfl⟩ := at_drop0 (bs := []) (x := eb) (by omega)
      have hsw := swap_ok hpo ha
      rw [hea, heb'] at hsw
      have hyr : y < rs.length := by omega
      have hyf : at_ fs (y : Int) = (at_ rs (y : Int)).2 := by rw [← hrs]; exact at_map hyr
      have r2y := r2 _ (at_mem hyr)
      rw [← hyf] at r2y
      have hln := hfo.len y (by omega)
      refine AW.draw (X := ⟨_, 139, _, _⟩) (id := 17) mixed (.take 0 <| .take 1 <| .take 2 <| .take 3 <| .take 4 <| .take 5 <| .take 6 <| .take 7 <| .take 8 <| .take 9 <| .take 10 <| .done) (by kernel_rfl) ?_
      simp (disch := omega) [-hset_if, -Bool.decide_and, hset_ne, v4.ix elemS35, v4.load0 shp3, hea, heb]
      refine AW.while (σ := Nat) (fun j => (at_ fs (y : Int)).length - j) (fun j => [(1, v), (2, .int .i64 (a : Int)), (3, .pointer (some ⟨new n, 0, none⟩)), (9, fv), (12, .int .i64 ea), (13, .int .i64 (y : Int)), (14, .bool (((at_ fs (y : Int)).take j).any fun z => z == ea)), (15, .int .i64 (j : Int))])
        (fun j n5 H5 => n5 = n6 ∧ H5 = H6 ∧ j ≤ (at_ fs (y : Int)).length) 0 ?_ ?_ ?_
      · simp (disch := omega) [-hset_if, -Bool.decide_and, hset_ne]
      · exact ⟨rfl, rfl, by omega⟩
      rintro j n7 H7 ⟨rfl, rfl, l1⟩
      simp (disch := omega) [-hset_if, -Bool.decide_and, hset_ne, r1.ix elemS30, r1.load0 shp35, r2y.lenK]
      refine cif_dec (fun l2 => ?_) (fun l2 => ?_)
      · have hnx := any_next (f := fun z : Int => z == ea) l2
        cases l3 : ((at_ fs (y : Int)).take j).any fun z => z == ea with
        | true =>
          rw [l3, Bool.true_or] at hnx
          simp (disch := omega) [-hset_if, -Bool.decide_and, hset_ne, l3]
          exact Next.mk (j + 1) (by first | omega | (dsimp only; omega)) (by rw [hnx]; simp (disch := omega) [-hset_if, -Bool.decide_and, hset_ne]) ⟨rfl, rfl, by omega⟩
        | false =>
          rw [l3, Bool.false_or] at hnx
          simp (disch := omega) [-hset_if, -Bool.decide_and, hset_ne, l3, r1.ix elemS30, r1.load0 shp35, r2y.ix elemS35, r2y.load0 shp3]
          exact Next.mk (j + 1) (by first | omega | (dsimp only; omega)) (by rw [hnx]; simp (disch := omega) [-hset_if, -Bool.decide_and, hset_ne]) ⟨rfl, rfl, by omega⟩
      have l3 : j = (at_ fs (y : Int)).length := by omega
      subst l3
      rw [List.take_length]
      obtain ⟨fb, hfb⟩ : ∃ fb, (at_ fs (y : Int)).any (fun z => z == ea) = fb := ⟨_, rfl⟩
      rw [hfb]
      simp (disch := omega) [-hset_if, -Bool.decide_and, hset_ne]
      refine (OwR.empty (n := n7 + 1) (j := n7) (T := 3) (sz := 1) (f := intC) (by omega) (by omega) (hset_same _ _ _)).appendS elemS35 zero3 (by simp) (v4.frame (fun i hi => hset_ne (by have := hE4 i hi; omega) _ _)) (fun z _ => by simp) (by simp; omega) (by simp; omega) ?_
      intro v8 n8 H8 E8 b1 b2 b3 b4 b5
      rw [List.nil_append] at b5
      have hE8 : ∀ i, E8 i → n7 ≤ i := fun i hi => by rcases b4 i hi with h | h <;> omega
      have hf8 : ∀ i, i < n7 → H8 i = H7 i := fun i hi => by rw [b3 i (by omega) (by omega), hset_ne (by omega)]
      simp (disch := omega) [-hset_if, -Bool.decide_and, hset_ne, b5.sl.ix elemS35]
      refine b5.store0 shp3 (by omega) (by omega) (y : Int) (by simp) (by simp) (by simp) ?_
      intro H9 c1 c2
      rw [Int.toNat_natCast] at c2
      have hsl1 : (l.set a (y : Int)).length = l.length := List.length_set ..
      simp (disch := omega) [-hset_if, -Bool.decide_and, hset_ne, c2.sl.ix elemS35]
      refine c2.store0 shp3 (by omega) (by rw [List.length_set]; omega) ea (by simp) (by simp) (by simp) ?_
      intro H10 d1 d2
      have hsl : (l.set a (y : Int)).set ((a : Int) + 1).toNat ea = swapL l a := by
        unfold swapL
        rw [hea, heb', show ((a : Int) + 1).toNat = a + 1 by omega]
      rw [hsl] at d2
      have hf10 : ∀ i, i < n7 → H10 i = H7 i := fun i hi => by rw [d1 i (fun e => by have := hE8 i e; omega), c1 i (fun e => by have := hE8 i e; omega), hf8 i hi]
      have hb10 : H10 n = .cells [.string p.nm, .int .i64 p.per, p.nv, p.dv] 25 1 := by rw [hf10 n (by omega)]; exact hbx4
      have hp10 := hp4.frame (H' := H10) (fun i hi => hf10 i (by have := hD i hi; omega))
      simp (disch := omega) [-hset_if, -Bool.decide_and, hset_ne, hb10]
      have hlt2 := d2.lt
      refine Valid_ok hp10 (fun i hi => by have := hD i hi; omega) hib d2.sl hlt2 (by rw [swap_len]; omega) ?_
      have hvs : validP p (swapL l a) = !fb := by
        unfold validP
        rw [hfs, swap_len, decide_eq_true hc, decide_eq_true hlen, Bool.true_and, Bool.true_and, Bool.eq_iff_iff, valid_iff (by rw [swap_len, hfl]; exact hlen), hsw, ← hfb, Bool.not_eq_true', List.any_eq_false]
        constructor
        · intro h z hz e
          have : z = ea := by simpa using e
          subst this; exact h hz
        · intro h e
          have := h ea e
          simp at this
      rw [hvs]
      simp (disch := omega) [-hset_if, -Bool.decide_and, hset_ne]
      refine Fin_id ?_
      have := hk n8 H10 (by omega) (fun i hi => by rw [hf10 i (by omega), hfr4 i hi])
      cases fb <;> exact this
  · simp (disch := omega) [-hset_if, -Bool.decide_and, hset_ne]
    by_cases x0 : x < 0
    · simp (disch := omega) [-hset_if, -Bool.decide_and, hset_ne, x0]
      refine Fin_id ?_
      exact hk _ _ (by omega) hfr4
    by_cases x1 : (l.length : Int) - 1 ≤ x
    · simp (disch := omega) [-hset_if, -Bool.decide_and, hset_ne, x0, v4.lenK, x1]
      refine Fin_id ?_
      exact hk _ _ (by omega) hfr4
    obtain ⟨a, rfl⟩ := at_drop0 (bs := []) (x := x) (by omega)
    have ha : a + 1 < l.length := by omega
    simp (disch := omega) [-hset_if, -Bool.decide_and, hset_ne, x0, v4.lenK, x1]
    obtain ⟨ea, hea⟩ : ∃ e, at_ l (a : Int) = e := ⟨_, rfl⟩
    obtain ⟨eb, heb⟩ : ∃ e, at_ l ((a : Int) + 1) = e := ⟨_, rfl⟩
    have heb' : at_ l ((a + 1 : Nat) : Int) = eb := heb
    have hbr := (hpo.ok (a + 1) ha).1
    rw [heb'] at hbr
    obtain ⟨y, rfl⟩ := at_drop0 (bs := []) (x := eb) (by omega)
    have hsw := swap_ok hpo ha
    rw [hea, heb'] at hsw
    have hyr : y < rs.length := by omega
    have hyf : at_ fs (y : Int) = (at_ rs (y : Int)).2 := by rw [← hrs]; exact at_map hyr
    have r2y := r2 _ (at_mem hyr)
    rw [← hyf] at r2y
    have hln := hfo.len y (by omega)
    refine AW.draw (X := ⟨_, 139, _, _⟩) (id := 17) mixed (.take 0 <| .take 1 <| .take 2 <| .take 3 <| .take 4 <| .take 5 <| .take 6 <| .take 7 <| .take 8 <| .take 9 <| .take 10 <| .done) (by kernel_rfl) ?_
    simp (disch := omega) [-hset_if, -Bool.decide_and, hset_ne, v4.ix elemS35, v4.load0 shp3, hea, heb]
    refine AW.while (σ := Nat) (fun j => (at_ fs (y : Int)).length - j) (fun j => [(1, v), (2, .int .i64 (a : Int)), (3, .pointer (some ⟨new n, 0, none⟩)), (9, fv), (12, .int .i64 ea), (13, .int .i64 (y : Int)), (14, .bool (((at_ fs (y : Int)).take j).any fun z => z == ea)), (15, .int .i64 (j : Int))])
      (fun j n5 H5 => n5 = n6 ∧ H5 = H6 ∧ j ≤ (at_ fs (y : Int)).length) 0 ?_ ?_ ?_
    · simp (disch := omega) [-hset_if, -Bool.decide_and, hset_ne]
    · exact ⟨rfl, rfl, by omega⟩
    rintro j n7 H7 ⟨rfl, rfl, l1⟩
    simp (disch := omega) [-hset_if, -Bool.decide_and, hset_ne, r1.ix elemS30, r1.load0 shp35, r2y.lenK]
    refine cif_dec (fun l2 => ?_) (fun l2 => ?_)
    · have hnx := any_next (f := fun z : Int => z == ea) l2
      cases l3 : ((at_ fs (y : Int)).take j).any fun z => z == ea with
      | true =>
        rw [l3, Bool.true_or] at hnx
        simp (disch := omega) [-hset_if, -Bool.decide_and, hset_ne, l3]
        exact Next.mk (j + 1) (by first | omega | (dsimp only; omega)) (by rw [hnx]; simp (disch := omega) [-hset_if, -Bool.decide_and, hset_ne]) ⟨rfl, rfl, by omega⟩
      | false =>
        rw [l3, Bool.false_or] at hnx
        simp (disch := omega) [-hset_if, -Bool.decide_and, hset_ne, l3, r1.ix elemS30, r1.load0 shp35, r2y.ix elemS35, r2y.load0 shp3]
        exact Next.mk (j + 1) (by first | omega | (dsimp only; omega)) (by rw [hnx]; simp (disch := omega) [-hset_if, -Bool.decide_and, hset_ne]) ⟨rfl, rfl, by omega⟩
    have l3 : j = (at_ fs (y : Int)).length := by omega
    subst l3
    rw [List.take_length]
    obtain ⟨fb, hfb⟩ : ∃ fb, (at_ fs (y : Int)).any (fun z => z == ea) = fb := ⟨_, rfl⟩
    rw [hfb]
    simp (disch := omega) [-hset_if, -Bool.decide_and, hset_ne]
    refine (OwR.empty (n := n7 + 1) (j := n7) (T := 3) (sz := 1) (f := intC) (by omega) (by omega) (hset_same _ _ _)).appendS elemS35 zero3 (by simp) (v4.frame (fun i hi => hset_ne (by have := hE4 i hi; omega) _ _)) (fun z _ => by simp) (by simp; omega) (by simp; omega) ?_
    intro v8 n8 H8 E8 b1 b2 b3 b4 b5
    rw [List.nil_append] at b5
    have hE8 : ∀ i, E8 i → n7 ≤ i := fun i hi => by rcases b4 i hi with h | h <;> omega
    have hf8 : ∀ i, i < n7 → H8 i = H7 i := fun i hi => by rw [b3 i (by omega) (by omega), hset_ne (by omega)]
    simp (disch := omega) [-hset_if, -Bool.decide_and, hset_ne, b5.sl.ix elemS35]
    refine b5.store0 shp3 (by omega) (by omega) (y : Int) (by simp) (by simp) (by simp) ?_
    intro H9 c1 c2
    rw [Int.toNat_natCast] at c2
    have hsl1 : (l.set a (y : Int)).length = l.length := List.length_set ..
    simp (disch := omega) [-hset_if, -Bool.decide_and, hset_ne, c2.sl.ix elemS35]
    refine c2.store0 shp3 (by omega) (by rw [List.length_set]; omega) ea (by simp) (by simp) (by simp) ?_
    intro H10 d1 d2
    have hsl : (l.set a (y : Int)).set ((a : Int) + 1).toNat ea = swapL l a := by
      unfold swapL
      rw [hea, heb', show ((a : Int) + 1).toNat = a + 1 by omega]
    rw [hsl] at d2
    have hf10 : ∀ i, i < n7 → H10 i = H7 i := fun i hi => by rw [d1 i (fun e => by have := hE8 i e; omega), c1 i (fun e => by have := hE8 i e; omega), hf8 i hi]
    have hb10 : H10 n = .cells [.string p.nm, .int .i64 p.per, p.nv, p.dv] 25 1 := by rw [hf10 n (by omega)]; exact hbx4
    have hp10 := hp4.frame (H' := H10) (fun i hi => hf10 i (by have := hD i hi; omega))
    simp (disch := omega) [-hset_if, -Bool.decide_and, hset_ne, hb10]
    have hlt2 := d2.lt
    refine Valid_ok hp10 (fun i hi => by have := hD i hi; omega) hib d2.sl hlt2 (by rw [swap_len]; omega) ?_
    have hvs : validP p (swapL l a) = !fb := by
      unfold validP
      rw [hfs, swap_len, decide_eq_true hc, decide_eq_true hlen, Bool.true_and, Bool.true_and, Bool.eq_iff_iff, valid_iff (by rw [swap_len, hfl]; exact hlen), hsw, ← hfb, Bool.not_eq_true', List.any_eq_false]
      constructor
      · intro h z hz e
        have : z = ea := by simpa using e
        subst this; exact h hz
      · intro h e
        have := h ea e
        simp at this
    rw [hvs]
    simp (disch := omega) [-hset_if, -Bool.decide_and, hset_ne]
    refine Fin_id ?_
    have := hk n8 H10 (by omega) (fun i hi => by rw [hf10 i (by omega), hfr4 i hi])
    cases fb <;> exact this
end Go.Aw.S25
