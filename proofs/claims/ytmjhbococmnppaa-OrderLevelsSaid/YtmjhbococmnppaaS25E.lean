/-
  Chapter 25: cycles, plain: the search by width finds the least of the shortest cycles.
-/
import Derived.Test.YtmjhbococmnppaaS25D
namespace Go.Aw.S25
open Go.RowKit Go.Proofs Go.Aw.Tab
set_option linter.unusedSimpArgs false
set_option linter.unusedVariables false
/-- The first list that is not empty. -/
def firstNE {α β : Type} (f : β → List α) : List β → List α
  | [] => []
  | k :: ks => match f k with
    | [] => firstNE f ks
    | x :: r => x :: r
theorem firstNE_none {α β : Type} {f : β → List α} : ∀ {l : List β}, (∀ k ∈ l, f k = []) → firstNE f l = []
  | [], _ => rfl
  | k :: ks, h => by
    unfold firstNE
    rw [h k (by simp)]
    exact firstNE_none fun q hq => h q (by simp [hq])
theorem firstNE_app {α β : Type} {f : β → List α} : ∀ {l r : List β}, (∀ k ∈ l, f k = []) → firstNE f (l ++ r) = firstNE f r
  | [], _, _ => rfl
  | k :: ks, r, h => by
    rw [List.cons_append]
    conv => lhs; unfold firstNE
    rw [h k (by simp)]
    exact firstNE_app fun q hq => h q (by simp [hq])
theorem firstNE_cons {α β : Type} {f : β → List α} {k : β} {ks : List β} (h : f k ≠ []) : firstNE f (k :: ks) = f k := by
  unfold firstNE
  cases e : f k with
  | nil => exact absurd e h
  | cons x r => rfl
theorem range_split {k m : Nat} (h : k < m) : ∃ r, List.range m = List.range k ++ k :: r := by
  refine ⟨List.map (k + ·) (List.map Nat.succ (List.range (m - k - 1))), ?_⟩
  have e : m = k + (m - k - 1 + 1) := by omega
  conv => lhs; rw [e, List.range_add]
  congr 1
  rw [List.range_succ_eq_map]
  simp
theorem firstNE_at {α : Type} {f : Nat → List α} {k m : Nat} (hk : k < m) (h : ∀ q, q < k → f q = []) (hne : f k ≠ []) : firstNE f (List.range m) = f k := by
  obtain ⟨r, e⟩ := range_split hk
  rw [e, firstNE_app (fun q hq => h q (by simpa using hq)), firstNE_cons hne]
theorem firstNE_no {α : Type} {f : Nat → List α} {m : Nat} (h : ∀ q, q < m → f q = []) : firstNE f (List.range m) = [] := firstNE_none fun q hq => h q (by simpa using hq)
theorem firstNE_inv {α : Type} {f : Nat → List α} {m : Nat} (h : firstNE f (List.range m) ≠ []) : ∃ k, k < m ∧ f k ≠ [] ∧ firstNE f (List.range m) = f k ∧ ∀ q, q < k → f q = [] := by
  have key : ∀ k, k ≤ m → (∀ q, q < k → f q = []) ∨ ∃ j, j < k ∧ f j ≠ [] ∧ ∀ q, q < j → f q = [] := by
    intro k
    induction k with
    | zero => intro _; exact .inl fun q hq => by omega
    | succ k ih =>
      intro hk
      rcases ih (by omega) with h1 | ⟨j, h1, h2, h3⟩
      · cases e : f k with
        | nil =>
          left; intro q hq
          by_cases e2 : q = k
          · subst e2; exact e
          · exact h1 q (by omega)
        | cons x r => exact .inr ⟨k, by omega, by rw [e]; simp, h1⟩
      · exact .inr ⟨j, by omega, h2, h3⟩
  rcases key m (Nat.le_refl _) with h1 | ⟨j, h1, h2, h3⟩
  · exact absurd (firstNE_no h1) h
  · exact ⟨j, h1, h2, firstNE_at h1 h3 h2, h3⟩
/-- The last number of a way. -/
def lastI (way : List Int) : Int := at_ way (((way.length - 1 : Nat)) : Int)
theorem lastI_snoc (way : List Int) (k : Int) : lastI (way ++ [k]) = k := by
  unfold lastI
  rw [at_nat (by simp)]
  simp
theorem head_snoc {way : List Int} (h : 0 < way.length) (k : Int) : at_ (way ++ [k]) ((0 : Nat) : Int) = at_ way ((0 : Nat) : Int) := by
  rw [at_nat (by simp), at_nat h, List.getElem_append_left h]
/-- The least cycle that begins with a way and has r nodes more. -/
def grow (fs : List (List Int)) : Nat → List Int → List Int
  | 0, way => if lastI way ∈ at_ fs (at_ way ((0 : Nat) : Int)) then way else []
  | r + 1, way => firstNE (fun k : Nat => if at_ way ((0 : Nat) : Int) < (k : Int) ∧ (k : Int) ∉ way ∧ lastI way ∈ at_ fs (k : Int) then grow fs r (way ++ [(k : Int)]) else []) (List.range fs.length)
def cyc (fs : List (List Int)) (a : Nat) : List Int := firstNE (fun L => grow fs L [(a : Int)]) (List.range fs.length)
def cycR (fs : List (List Int)) : List Int := firstNE (fun L => firstNE (fun a : Nat => grow fs L [(a : Int)]) (List.range fs.length)) (List.range fs.length)
theorem grow_len (fs : List (List Int)) : ∀ (r : Nat) (way : List Int), grow fs r way ≠ [] → (grow fs r way).length = way.length + r
  | 0, way, h => by
    unfold grow at h ⊢
    split at h
    · rename_i e; rw [if_pos e]; rfl
    · exact absurd rfl h
  | r + 1, way, h => by
    unfold grow at h ⊢
    obtain ⟨k, hk, h1, h2, _⟩ := firstNE_inv h
    rw [h2]
    try dsimp only at h1 ⊢
    split at h1
    · rename_i e
      rw [if_pos e, grow_len fs r _ h1, List.length_append]
      simp; omega
    · exact absurd rfl h1
/-- A walk of d steps from k to a over greater nodes. -/
def Wk (fs : List (List Int)) (a : Nat) : Nat → Nat → Prop
  | 0, k => k = a
  | d + 1, k => ∃ k' : Nat, k' < fs.length ∧ (k : Int) ∈ at_ fs (k' : Int) ∧ (a < k' ∨ d = 0) ∧ Wk fs a d k'
theorem grow_wk {fs : List (List Int)} {a : Nat} (ha : a < fs.length) : ∀ (r : Nat) (way : List Int) (x : Nat), 0 < way.length → at_ way ((0 : Nat) : Int) = (a : Int) → lastI way = (x : Int) → grow fs r way ≠ [] → Wk fs a (r + 1) x
  | 0, way, x, h0, h1, h2, h => by
    unfold grow at h
    rw [h1, h2] at h
    split at h
    · rename_i e; exact ⟨a, ha, e, .inr rfl, rfl⟩
    · exact absurd rfl h
  | r + 1, way, x, h0, h1, h2, h => by
    unfold grow at h
    obtain ⟨k, hk, h3, _, _⟩ := firstNE_inv h
    try dsimp only at h3
    split at h3
    · rename_i e
      rw [h1, h2] at e
      exact ⟨k, hk, e.2.2, .inl (by omega), grow_wk ha r _ k (by simp) (by rw [head_snoc h0, h1]) (lastI_snoc _ _) h3⟩
    · exact absurd rfl h3
/-- The numbers of steps to a are right. -/
structure AwOk (fs : List (List Int)) (a : Nat) (aw : List Int) : Prop where
  len : aw.length = fs.length
  nn : ∀ i : Nat, i < fs.length → 0 ≤ at_ aw (i : Int) ∧ at_ aw (i : Int) ≤ fs.length
  wk : ∀ i : Nat, a ≤ i → i < fs.length → at_ aw (i : Int) ≠ 0 → Wk fs a (at_ aw (i : Int)).toNat i
  le : ∀ d i : Nat, a ≤ i → i < fs.length → Wk fs a (d + 1) i → at_ aw (i : Int) ≠ 0 ∧ at_ aw (i : Int) ≤ d + 1
/-- The nodes that a node feeds. -/
def fedP (fs : List (List Int)) (i : Int) : List Int := selP (fun k => decide (i ∈ at_ fs (k : Int))) fs.length
def pickB (a : Nat) (aw : List Int) (left : Nat) (k : Int) : Bool := decide ((a : Int) < k) && decide (at_ aw k = (left : Int))
def grdy (fs : List (List Int)) (a : Nat) (aw : List Int) : Nat → List Int → List Int
  | 0, out => out
  | left + 1, out => match (fedP fs (lastI out)).find? (pickB a aw (left + 1)) with
    | some k => grdy fs a aw left (out ++ [k])
    | none => grdy fs a aw left out
theorem selP_find {f : Nat → Bool} {g : Int → Bool} {k : Nat} : ∀ {m : Nat}, k < m → f k = true → g (k : Int) = true → (∀ q, q < k → f q = true → g (q : Int) = false) → (selP f m).find? g = some (k : Int)
  | 0, h, _, _, _ => by omega
  | m + 1, h, h1, h2, h3 => by
    rw [selP_next, List.find?_append]
    by_cases e : k = m
    · subst e
      have : (selP f k).find? g = none := by
        rw [List.find?_eq_none]
        intro x hx
        obtain ⟨q, e1, e2, rfl⟩ := selP_mem.1 hx
        simpa using h3 q e1 e2
      rw [this, if_pos h1]
      simp [h2]
    · rw [selP_find (m := m) (by omega) h1 h2 h3]; rfl
theorem least_ex {P : Nat → Prop} (h : ∃ k, P k) : ∃ k, P k ∧ ∀ q, q < k → ¬ P q := by
  obtain ⟨k, hk⟩ := h
  induction k using Nat.strongRecOn with
  | _ k ih =>
    by_cases e : ∃ q, q < k ∧ P q
    · obtain ⟨q, h1, h2⟩ := e; exact ih q h1 h2
    · exact ⟨k, hk, fun q h1 h2 => e ⟨q, h1, h2⟩⟩
theorem grdy_grow {fs : List (List Int)} {a : Nat} {aw : List Int} (ha : a < fs.length) (hw : AwOk fs a aw) : ∀ (r : Nat) (way : List Int) (x : Nat), 0 < way.length → at_ way ((0 : Nat) : Int) = (a : Int) → lastI way = (x : Int) → a ≤ x → x < fs.length → at_ aw (x : Int) = (r : Int) + 1 → (∀ v ∈ way, v = (a : Int) ∨ (r : Int) < at_ aw v) → grow fs r way = grdy fs a aw r way ∧ grow fs r way ≠ []
  | 0, way, x, h0, h1, h2, h3, h4, h5, h6 => by
    have := hw.wk x h3 h4 (by omega)
    rw [h5] at this
    obtain ⟨k, e1, e2, _, e4⟩ := this
    have e4 : k = a := e4
    subst e4
    unfold grow grdy
    rw [h1, h2, if_pos e2]
    exact ⟨rfl, fun e => by rw [e] at h0; simp at h0⟩
  | r + 1, way, x, h0, h1, h2, h3, h4, h5, h6 => by
    have hwk := hw.wk x h3 h4 (by omega)
    rw [show (at_ aw (x : Int)).toNat = r + 1 + 1 by omega] at hwk
    have key : ∀ k : Nat, k < fs.length → (x : Int) ∈ at_ fs (k : Int) → a < k → Wk fs a (r + 1) k → at_ aw (k : Int) = (r : Int) + 1 := fun k k1 k2 k3 k4 => by
      have g1 := hw.le r k (by omega) k1 k4
      have g2 := hw.nn k k1
      have g3 := hw.wk k (by omega) k1 g1.1
      obtain ⟨e, he⟩ : ∃ e : Nat, (at_ aw (k : Int)).toNat = e := ⟨_, rfl⟩
      rw [he] at g3
      have g4 := hw.le e x h3 h4 ⟨k, k1, k2, .inl k3, g3⟩
      omega
    obtain ⟨k1, e1, e2, e3, e4⟩ := hwk
    have e3 : a < k1 := by rcases e3 with h | h; exact h; omega
    obtain ⟨k, ⟨f1, f2, f3, f4⟩, f5⟩ := least_ex (P := fun k : Nat => k < fs.length ∧ (x : Int) ∈ at_ fs (k : Int) ∧ a < k ∧ at_ aw (k : Int) = (r : Int) + 1) ⟨k1, e1, e2, e3, key k1 e1 e2 e3 e4⟩
    have hpick : (fedP fs (lastI way)).find? (pickB a aw (r + 1)) = some (k : Int) := by
      unfold fedP
      refine selP_find f1 (by rw [h2]; exact decide_eq_true f2) ?_ ?_
      · unfold pickB; rw [decide_eq_true (by omega), decide_eq_true (by omega)]; rfl
      · intro q q1 q2
        rw [h2] at q2
        cases hb : pickB a aw (r + 1) (q : Int) with
        | false => rfl
        | true =>
          unfold pickB at hb
          rw [Bool.and_eq_true, decide_eq_true_iff, decide_eq_true_iff] at hb
          exact absurd ⟨by omega, of_decide_eq_true q2, by omega, by omega⟩ (f5 q q1)
    have hkn : (k : Int) ∉ way := fun h => by
      rcases h6 _ h with e | e
      · omega
      · omega
    have ih := grdy_grow ha hw r (way ++ [(k : Int)]) k (by simp) (by rw [head_snoc h0, h1]) (lastI_snoc _ _) (by omega) f1 f4 (fun v hv => by
      rcases List.mem_append.1 hv with hv | hv
      · rcases h6 v hv with e | e
        · exact .inl e
        · right; omega
      · simp only [List.mem_cons, List.not_mem_nil, or_false] at hv
        subst hv; right; omega)
    have hgr : grow fs (r + 1) way = grow fs r (way ++ [(k : Int)]) := by
      conv => lhs; unfold grow
      have hc : at_ way ((0 : Nat) : Int) < (k : Int) ∧ (k : Int) ∉ way ∧ lastI way ∈ at_ fs (k : Int) := ⟨by rw [h1]; omega, hkn, by rw [h2]; exact f2⟩
      rw [firstNE_at f1 (fun q hq => ?_) (by rw [if_pos hc]; exact ih.2), if_pos hc]
      split
      · rename_i hq2
        rw [h1, h2] at hq2
        cases hg : grow fs r (way ++ [(q : Int)]) with
        | nil => rfl
        | cons y l =>
          have hwq := grow_wk ha r (way ++ [(q : Int)]) q (by simp) (by rw [head_snoc h0, h1]) (lastI_snoc _ _) (by rw [hg]; simp)
          exact absurd ⟨by omega, hq2.2.2, by omega, key q (by omega) hq2.2.2 (by omega) hwq⟩ (f5 q hq)
      · rfl
    rw [hgr]
    refine ⟨?_, ih.2⟩
    conv => rhs; unfold grdy
    rw [hpick]
    exact ih.1
/-- The greedy cycle is the least of the shortest ones. -/
theorem grdy_cyc {fs : List (List Int)} {a : Nat} {aw : List Int} (ha : a < fs.length) (hw : AwOk fs a aw) : cyc fs a = if at_ aw (a : Int) = 0 then [] else grdy fs a aw ((at_ aw (a : Int)).toNat - 1) [(a : Int)] := by
  have hl : lastI [(a : Int)] = (a : Int) := rfl
  have hno : ∀ L : Nat, ((L : Int) + 1 < at_ aw (a : Int) ∨ at_ aw (a : Int) = 0) → grow fs L [(a : Int)] = [] := fun L h => by
    cases hg : grow fs L [(a : Int)] with
    | nil => rfl
    | cons y l =>
      have := grow_wk ha L [(a : Int)] a (by simp) rfl hl (by rw [hg]; simp)
      have := hw.le L a (Nat.le_refl _) ha this
      omega
  have hnn := hw.nn a ha
  unfold cyc
  split
  · rename_i h; exact firstNE_no fun q _ => hno q (.inr h)
  · rename_i h
    obtain ⟨d, hd⟩ : ∃ d : Nat, (at_ aw (a : Int)).toNat - 1 = d := ⟨_, rfl⟩
    rw [hd]
    have hg := grdy_grow ha hw d [(a : Int)] a (by simp) rfl hl (Nat.le_refl _) ha (by omega) (by simp)
    rw [firstNE_at (k := d) (by omega) (fun q hq => hno q (.inl (by omega))) hg.2, hg.1]
theorem cyc_inv {fs : List (List Int)} {a : Nat} (h : cyc fs a ≠ []) : ∃ L, L < fs.length ∧ cyc fs a = grow fs L [(a : Int)] ∧ (cyc fs a).length = L + 1 ∧ ∀ q, q < L → grow fs q [(a : Int)] = [] := by
  obtain ⟨L, h1, h2, h3, h4⟩ := firstNE_inv h
  have h3 : cyc fs a = grow fs L [(a : Int)] := h3
  exact ⟨L, h1, h3, by rw [h3, grow_len fs L _ h2]; simp; omega, h4⟩
theorem cyc_le {fs : List (List Int)} {a L : Nat} (hL : L < fs.length) (h : grow fs L [(a : Int)] ≠ []) : cyc fs a ≠ [] ∧ (cyc fs a).length ≤ L + 1 := by
  have hne : cyc fs a ≠ [] := fun e => by
    obtain ⟨k, ⟨k1, k2⟩, k3⟩ := least_ex (P := fun L => L < fs.length ∧ grow fs L [(a : Int)] ≠ []) ⟨L, hL, h⟩
    have := firstNE_at (f := fun L => grow fs L [(a : Int)]) k1 (fun q hq => by
      cases hg : grow fs q [(a : Int)] with
      | nil => rfl
      | cons y l => exact absurd ⟨by omega, by rw [hg]; simp⟩ (k3 q hq)) k2
    unfold cyc at e
    rw [e] at this
    exact k2 this.symm
  obtain ⟨K, h1, h2, h3, h4⟩ := cyc_inv hne
  refine ⟨hne, ?_⟩
  rw [h3]
  by_cases e : L < K
  · exact absurd (h4 L e) h
  · omega
/-- The best one of the cycles of the nodes before k. -/
def best (fs : List (List Int)) : Nat → List Int
  | 0 => []
  | k + 1 => if 0 < (cyc fs k).length ∧ ((best fs k).length = 0 ∨ (cyc fs k).length < (best fs k).length) then cyc fs k else best fs k
structure BestI (fs : List (List Int)) (k : Nat) (b : List Int) : Prop where
  no : b = [] → ∀ j, j < k → cyc fs j = []
  yes : b ≠ [] → ∃ i, i < k ∧ b = cyc fs i ∧ (∀ j, j < k → cyc fs j ≠ [] → b.length ≤ (cyc fs j).length) ∧ ∀ j, j < i → cyc fs j ≠ [] → b.length < (cyc fs j).length
theorem best_ok (fs : List (List Int)) : ∀ k, BestI fs k (best fs k)
  | 0 => ⟨fun _ j hj => by omega, fun h => absurd rfl h⟩
  | k + 1 => by
    obtain ⟨h1, h2⟩ := best_ok fs k
    unfold best
    generalize best fs k = b at *
    split
    · rename_i h
      have hne : cyc fs k ≠ [] := fun e => by rw [e] at h; simp at h
      refine ⟨fun e => absurd e hne, fun _ => ⟨k, by omega, rfl, fun j hj hjn => ?_, fun j hj hjn => ?_⟩⟩
      · by_cases e : j = k
        · subst e; omega
        · by_cases eb : b = []
          · exact absurd (h1 eb j (by omega)) hjn
          · obtain ⟨i, g1, g2, g3, g4⟩ := h2 eb
            have := g3 j (by omega) hjn
            rcases h.2 with h | h
            · exact absurd (List.eq_nil_of_length_eq_zero h) eb
            · omega
      · by_cases eb : b = []
        · exact absurd (h1 eb j (by omega)) hjn
        · obtain ⟨i, g1, g2, g3, g4⟩ := h2 eb
          have := g3 j (by omega) hjn
          rcases h.2 with h | h
          · exact absurd (List.eq_nil_of_length_eq_zero h) eb
          · omega
    · rename_i h
      by_cases ek : cyc fs k = []
      · refine ⟨fun e j hj => ?_, fun e => ?_⟩
        · by_cases e2 : j = k
          · subst e2; exact ek
          · exact h1 e j (by omega)
        · obtain ⟨i, g1, g2, g3, g4⟩ := h2 e
          refine ⟨i, by omega, g2, fun j hj hjn => ?_, g4⟩
          by_cases e2 : j = k
          · subst e2; exact absurd ek hjn
          · exact g3 j (by omega) hjn
      · have hlk : 0 < (cyc fs k).length := List.length_pos_iff.2 ek
        have hb : ¬ b.length = 0 ∧ ¬ (cyc fs k).length < b.length := ⟨fun e => h ⟨hlk, .inl e⟩, fun e => h ⟨hlk, .inr e⟩⟩
        refine ⟨fun e => absurd (by rw [e]; rfl) hb.1, fun e => ?_⟩
        obtain ⟨i, g1, g2, g3, g4⟩ := h2 e
        refine ⟨i, by omega, g2, fun j hj hjn => ?_, g4⟩
        by_cases e2 : j = k
        · subst e2; omega
        · exact g3 j (by omega) hjn
theorem best_ref (fs : List (List Int)) : best fs fs.length = cycR fs := by
  obtain ⟨h1, h2⟩ := best_ok fs fs.length
  generalize best fs fs.length = b at *
  unfold cycR
  by_cases e : b = []
  · rw [e]
    symm
    refine firstNE_no fun L hL => firstNE_no fun a ha => ?_
    cases hg : grow fs L [(a : Int)] with
    | nil => rfl
    | cons y l => exact absurd (h1 e a ha) (cyc_le hL (by rw [hg]; simp)).1
  · obtain ⟨i, g1, g2, g3, g4⟩ := h2 e
    subst g2
    obtain ⟨L, f1, f2, f3, f4⟩ := cyc_inv e
    have hi : firstNE (fun a : Nat => grow fs L [(a : Int)]) (List.range fs.length) = grow fs L [(i : Int)] := by
      refine firstNE_at g1 (fun q hq => ?_) (by rw [← f2]; exact e)
      cases hg : grow fs L [(q : Int)] with
      | nil => rfl
      | cons y l =>
        obtain ⟨c1, c2⟩ := cyc_le f1 (a := q) (by rw [hg]; simp)
        have := g4 q hq c1
        omega
    symm
    rw [firstNE_at (k := L) f1 (fun q hq => ?_) (by rw [hi, ← f2]; exact e), hi, ← f2]
    refine firstNE_no fun a ha => ?_
    cases hg : grow fs q [(a : Int)] with
    | nil => rfl
    | cons y l =>
      obtain ⟨c1, c2⟩ := cyc_le (fs := fs) (L := q) (a := a) (by omega) (by rw [hg]; simp)
      have := g3 a ha c1
      omega
end Go.Aw.S25
/-
  Chapter 25: the search by width, plain.
-/
namespace Go.Aw.S25
open Go.RowKit Go.Proofs Go.Aw.Tab
set_option linter.unusedSimpArgs false
set_option linter.unusedVariables false
/-- Distance from the first one. -/
def dq (a : Nat) (aw : List Int) (x : Int) : Int := if x = (a : Int) then 0 else at_ aw x
/-- One feeder is looked at. -/
def cy1 (a : Nat) (x : Int) (st : List Int × List Int) (i : Int) : List Int × List Int :=
  if (a : Int) ≤ i ∧ at_ st.1 i = 0 then
    ((if x = (a : Int) then st.1.set i.toNat 1 else (st.1.set i.toNat 1).set i.toNat (at_ (st.1.set i.toNat 1) x + 1)), if i = (a : Int) then st.2 else st.2 ++ [i])
  else st
def cyK (a : Nat) (x : Int) (st : List Int × List Int) (l : List Int) : Nat → List Int × List Int
  | 0 => st
  | j + 1 => cy1 a x (cyK a x st l j) (at_ l (j : Int))
structure CyI (fs : List (List Int)) (a : Nat) (st : List Int × List Int) (k : Nat) (cur : List Int) : Prop where
  len : st.1.length = fs.length
  hd : 0 < st.2.length ∧ at_ st.2 ((0 : Nat) : Int) = (a : Int)
  rng : ∀ x ∈ st.2, (a : Int) ≤ x ∧ x < fs.length
  mem : ∀ i : Nat, a < i → i < fs.length → at_ st.1 (i : Int) ≠ 0 → (i : Int) ∈ st.2
  nz : ∀ x ∈ st.2, x ≠ (a : Int) → at_ st.1 x ≠ 0
  nn : ∀ i : Nat, i < fs.length → 0 ≤ at_ st.1 (i : Int)
  snd : ∀ i : Nat, a ≤ i → i < fs.length → at_ st.1 (i : Int) ≠ 0 → Wk fs a (at_ st.1 (i : Int)).toNat i
  mono : ∀ r s : Nat, r ≤ s → s < st.2.length → dq a st.1 (at_ st.2 (r : Int)) ≤ dq a st.1 (at_ st.2 (s : Int))
  idx : ∀ r : Nat, r < st.2.length → dq a st.1 (at_ st.2 (r : Int)) ≤ r
  top : k < st.2.length → ∀ i : Nat, i < fs.length → at_ st.1 (i : Int) ≤ dq a st.1 (at_ st.2 (k : Int)) + 1
  cmp : ∀ r : Nat, r < k → ∀ x ∈ at_ fs (at_ st.2 (r : Int)), (a : Int) ≤ x → at_ st.1 x ≠ 0 ∧ at_ st.1 x ≤ dq a st.1 (at_ st.2 (r : Int)) + 1
  cmc : ∀ x ∈ cur, (a : Int) ≤ x → at_ st.1 x ≠ 0 ∧ at_ st.1 x ≤ dq a st.1 (at_ st.2 (k : Int)) + 1
  nd : st.2.Nodup
  bnd : ∀ i : Nat, i < fs.length → at_ st.1 (i : Int) ≤ st.2.length
  kl : k ≤ st.2.length
theorem nodup_len : ∀ (m : Nat) (l : List Int), l.Nodup → (∀ x ∈ l, 0 ≤ x ∧ x < m) → l.length ≤ m
  | 0, l, _, h => by
    cases l with
    | nil => simp
    | cons x r => have := h x (by simp); omega
  | m + 1, l, hn, h => by
    have h1 := nodup_len m (l.erase (m : Int)) (hn.erase _) (fun x hx => by
      have h2 := (List.Nodup.mem_erase_iff hn).1 hx
      have := h x h2.2
      have := h2.1
      omega)
    by_cases hm : (m : Int) ∈ l
    · rw [List.length_erase_of_mem hm] at h1; omega
    · rw [List.erase_of_not_mem hm] at h1; omega
theorem CyI.le {fs : List (List Int)} {a k : Nat} {st : List Int × List Int} {cur : List Int} (h : CyI fs a st k cur) : st.2.length ≤ fs.length :=
  nodup_len _ _ h.nd fun x hx => by have := h.rng x hx; omega
theorem CyI.init {fs : List (List Int)} {a : Nat} (ha : a < fs.length) : CyI fs a (List.replicate fs.length 0, [(a : Int)]) 0 [] := by
  have h0 : ∀ i : Nat, i < fs.length → at_ (List.replicate fs.length (0 : Int)) (i : Int) = 0 := fun i hi => by rw [at_nat (by simpa using hi)]; simp
  have ha0 : at_ [(a : Int)] ((0 : Nat) : Int) = (a : Int) := rfl
  refine ⟨by simp, ⟨by simp, ha0⟩, by simp; omega, fun i _ hi h => absurd (h0 i hi) h, by simp, fun i hi => by dsimp only; rw [h0 i hi]; omega, fun i _ hi h => absurd (h0 i hi) h, fun r s h1 h2 => ?_, fun r hr => ?_, fun _ i hi => ?_, fun r hr => by omega, by simp, by simp, fun i hi => by dsimp only; rw [h0 i hi]; simp, by simp⟩
  · simp at h2; subst h2; have : r = 0 := by omega
    subst this; omega
  · simp at hr; subst hr; dsimp only; rw [ha0]; unfold dq; rw [if_pos rfl]; omega
  · dsimp only; rw [h0 i hi, ha0]; unfold dq; rw [if_pos rfl]; omega
theorem CyI.step {fs : List (List Int)} {a k : Nat} {st : List Int × List Int} {cur : List Int} {i : Int} (hr : ∀ i : Nat, i < fs.length → ∀ x ∈ at_ fs (i : Int), 0 ≤ x ∧ x < fs.length) (ha : a < fs.length) (h : CyI fs a st k cur) (hk : k < st.2.length) (hi : i ∈ at_ fs (at_ st.2 (k : Int))) :
    CyI fs a (cy1 a (at_ st.2 (k : Int)) st i) k (cur ++ [i]) := by
  have hxm := at_mem (l := st.2) (j := k) hk
  have hxr := h.rng _ hxm
  obtain ⟨x, hx⟩ : ∃ x : Nat, at_ st.2 (k : Int) = (x : Int) := ⟨(at_ st.2 (k : Int)).toNat, by omega⟩
  rw [hx] at hxm hxr hi ⊢
  have hir := hr x (by omega) i hi
  obtain ⟨q, rfl⟩ : ∃ q : Nat, i = (q : Int) := ⟨i.toNat, by omega⟩
  have hq : q < fs.length := by omega
  unfold cy1
  by_cases hc : (a : Int) ≤ (q : Int) ∧ at_ st.1 (q : Int) = 0
  rotate_left
  · rw [if_neg hc]
    refine ⟨h.len, h.hd, h.rng, h.mem, h.nz, h.nn, h.snd, h.mono, h.idx, h.top, h.cmp, fun y hy hay => ?_, h.nd, h.bnd, h.kl⟩
    rcases List.mem_append.1 hy with hy | hy
    · exact h.cmc y hy hay
    · simp only [List.mem_cons, List.not_mem_nil, or_false] at hy
      subst hy
      exact ⟨fun e => hc ⟨hay, e⟩, h.top hk q hq⟩
  rw [if_pos hc]
  obtain ⟨hc1, hc2⟩ := hc
  have hl := h.len
  -- the new number
  obtain ⟨d, hd⟩ : ∃ d : Nat, dq a st.1 (x : Int) = (d : Int) := ⟨(dq a st.1 (x : Int)).toNat, by
    have := h.nn x (by omega)
    have : 0 ≤ dq a st.1 (x : Int) := by unfold dq; split <;> omega
    omega⟩
  have hne : x ≠ a → x ≠ q := fun e1 e2 => by
    have := h.nz _ hxm (by omega)
    rw [e2] at this; exact this hc2
  have haw : (if (x : Int) = (a : Int) then st.1.set (q : Int).toNat 1 else (st.1.set (q : Int).toNat 1).set (q : Int).toNat (at_ (st.1.set (q : Int).toNat 1) (x : Int) + 1)) = st.1.set q ((d : Int) + 1) := by
    rw [Int.toNat_natCast]
    unfold dq at hd
    by_cases e : (x : Int) = (a : Int)
    · rw [if_pos e] at hd ⊢; congr 1; omega
    · rw [if_neg e] at hd ⊢
      have hxq := hne (by omega)
      rw [List.set_set, at_set (by omega), if_neg (fun e => hxq e.symm), hd]
  rw [haw]
  have hat : ∀ j : Nat, j < fs.length → at_ (st.1.set q ((d : Int) + 1)) (j : Int) = if q = j then (d : Int) + 1 else at_ st.1 (j : Int) := fun j hj => at_set (by omega)
  have hnotin : q ≠ a → (q : Int) ∉ st.2 := fun e1 e2 => h.nz _ e2 (by omega) hc2
  have hold : ∀ y ∈ st.2, dq a (st.1.set q ((d : Int) + 1)) y = dq a st.1 y := fun y hy => by
    have hyr := h.rng y hy
    obtain ⟨z, rfl⟩ : ∃ z : Nat, y = (z : Int) := ⟨y.toNat, by omega⟩
    unfold dq
    by_cases e : (z : Int) = (a : Int)
    · rw [if_pos e, if_pos e]
    · rw [if_neg e, if_neg e, hat z (by omega), if_neg (fun e2 => by subst e2; exact hnotin (by omega) hy)]
  have hkeep : ∀ y : Nat, y < fs.length → at_ st.1 (y : Int) ≠ 0 → at_ (st.1.set q ((d : Int) + 1)) (y : Int) = at_ st.1 (y : Int) := fun y hy hy0 => by
    rw [hat y hy, if_neg (fun e => by subst e; exact hy0 hc2)]
  have htop := h.top hk
  rw [hx, hd] at htop
  have hidx := h.idx k hk
  rw [hx, hd] at hidx
  have hwd : Wk fs a (d + 1) q := by
    refine ⟨x, by omega, hi, ?_, ?_⟩
    · by_cases e : x = a
      · right; unfold dq at hd; rw [if_pos (by omega)] at hd; omega
      · left; omega
    · by_cases e : x = a
      · unfold dq at hd; rw [if_pos (by omega)] at hd
        have : d = 0 := by omega
        subst this; exact e
      · have := h.snd x (by omega) (by omega) (h.nz _ hxm (by omega))
        unfold dq at hd; rw [if_neg (by omega)] at hd
        rw [hd, Int.toNat_natCast] at this
        exact this
  generalize haw' : st.1.set q ((d : Int) + 1) = aw' at *
  -- facts that do not depend on the queue
  have hcore : aw'.length = fs.length := by rw [← haw', List.length_set]; exact h.len
  have hnn : ∀ j : Nat, j < fs.length → 0 ≤ at_ aw' (j : Int) := fun j hj => by rw [hat j hj]; have := h.nn j hj; split <;> omega
  have hsnd : ∀ j : Nat, a ≤ j → j < fs.length → at_ aw' (j : Int) ≠ 0 → Wk fs a (at_ aw' (j : Int)).toNat j := fun j h1 h2 h3 => by
    rw [hat j h2] at h3 ⊢
    split at h3
    · rename_i e; subst e; rw [if_pos rfl, show ((d : Int) + 1).toNat = d + 1 by omega]; exact hwd
    · rename_i e; rw [if_neg e]; exact h.snd j h1 h2 h3
  have htop' : ∀ j : Nat, j < fs.length → at_ aw' (j : Int) ≤ (d : Int) + 1 := fun j hj => by
    rw [hat j hj]
    have := htop j hj
    split <;> omega
  have hsome : ∀ y : Int, 0 ≤ y → y < fs.length → ∀ b : Int, (at_ st.1 y ≠ 0 ∧ at_ st.1 y ≤ b) → (at_ aw' y ≠ 0 ∧ at_ aw' y ≤ b) := fun y h1 h2 b h3 => by
    obtain ⟨z, rfl⟩ : ∃ z : Nat, y = (z : Int) := ⟨y.toNat, by omega⟩
    rw [hkeep z (by omega) h3.1]; exact h3
  have hcmc : ∀ y ∈ cur ++ [(q : Int)], (a : Int) ≤ y → at_ aw' y ≠ 0 ∧ at_ aw' y ≤ (d : Int) + 1 := fun y hy hay => by
    rcases List.mem_append.1 hy with hy | hy
    · have h3 := h.cmc y hy hay
      rw [hx, hd] at h3
      by_cases e : y < fs.length
      · exact hsome y (by omega) e _ h3
      · exfalso
        have h4 : at_ st.1 y = 0 := by
          obtain ⟨z, rfl⟩ : ∃ z : Nat, y = (z : Int) := ⟨y.toNat, by omega⟩
          unfold at_
          rw [Int.toNat_natCast, List.getD_eq_getElem?_getD, List.getElem?_eq_none (by omega)]; rfl
        exact h3.1 h4
    · simp only [List.mem_cons, List.not_mem_nil, or_false] at hy
      subst hy
      rw [hat q hq, if_pos rfl]; omega
  by_cases hqa : (q : Int) = (a : Int)
  · rw [if_pos hqa]
    have hqa' : q = a := by omega
    have hatq : ∀ r : Nat, r < st.2.length → dq a aw' (at_ st.2 (r : Int)) = dq a st.1 (at_ st.2 (r : Int)) := fun r hr => hold _ (at_mem hr)
    refine ⟨hcore, h.hd, h.rng, fun j h1 h2 h3 => ?_, fun y hy hya => ?_, hnn, hsnd, fun r s h1 h2 => ?_, fun r h1 => ?_, fun _ j hj => ?_, fun r h1 y hy hay => ?_, fun y hy hay => ?_, h.nd, fun j hj => ?_, h.kl⟩
    · dsimp only at h3 ⊢; rw [hat j h2, if_neg (by omega)] at h3; exact h.mem j h1 h2 h3
    · have hyr := h.rng y hy
      have := h.nz y hy hya
      obtain ⟨z, rfl⟩ : ∃ z : Nat, y = (z : Int) := ⟨y.toNat, by omega⟩
      dsimp only; rw [hkeep z (by omega) this]; exact this
    · dsimp only at h2 ⊢; rw [hatq r (by omega), hatq s h2]; exact h.mono r s h1 h2
    · dsimp only at h1 ⊢; rw [hatq r h1]; exact h.idx r h1
    · dsimp only; rw [hatq k hk, hx, hd]; exact htop' j hj
    · dsimp only at hy ⊢
      have hrl : r < st.2.length := by omega
      rw [hatq r hrl]
      have hrr := h.rng _ (at_mem hrl)
      obtain ⟨z, hz⟩ : ∃ z : Nat, at_ st.2 (r : Int) = (z : Int) := ⟨(at_ st.2 (r : Int)).toNat, by omega⟩
      have hyr := hr z (by omega) y (by rw [← hz]; exact hy)
      exact hsome y hyr.1 hyr.2 _ (h.cmp r h1 y hy hay)
    · dsimp only; rw [hatq k hk, hx, hd]; exact hcmc y hy hay
    · dsimp only; rw [hat j hj]; have := h.bnd j hj; split <;> omega
  · rw [if_neg hqa]
    have hqn := hnotin (by omega)
    have hpre : ∀ r : Nat, r < st.2.length → at_ (st.2 ++ [(q : Int)]) (r : Int) = at_ st.2 (r : Int) := fun r hr => by
      rw [at_nat (by simp; omega), at_nat hr, List.getElem_append_left hr]
    have hlast : at_ (st.2 ++ [(q : Int)]) ((st.2.length : Nat) : Int) = (q : Int) := by
      rw [at_nat (by simp)]; simp
    have hatq : ∀ r : Nat, r < st.2.length → dq a aw' (at_ (st.2 ++ [(q : Int)]) (r : Int)) = dq a st.1 (at_ st.2 (r : Int)) := fun r hr => by rw [hpre r hr]; exact hold _ (at_mem hr)
    have hnew : dq a aw' (q : Int) = (d : Int) + 1 := by unfold dq; rw [if_neg hqa, hat q hq, if_pos rfl]
    have hlen : (st.2 ++ [(q : Int)]).length = st.2.length + 1 := by simp
    have hdle : ∀ r : Nat, r < st.2.length → dq a st.1 (at_ st.2 (r : Int)) ≤ (d : Int) + 1 := fun r hr => by
      have hrr := h.rng _ (at_mem hr)
      obtain ⟨z, hz⟩ : ∃ z : Nat, at_ st.2 (r : Int) = (z : Int) := ⟨(at_ st.2 (r : Int)).toNat, by omega⟩
      have := htop z (by omega)
      unfold dq
      rw [hz]
      split <;> omega
    refine ⟨hcore, ⟨by rw [hlen]; omega, by dsimp only; rw [hpre 0 h.hd.1]; exact h.hd.2⟩, fun y hy => ?_, fun j h1 h2 h3 => ?_, fun y hy hya => ?_, hnn, hsnd, fun r s h1 h2 => ?_, fun r h1 => ?_, fun _ j hj => ?_, fun r h1 y hy hay => ?_, fun y hy hay => ?_, ?_, fun j hj => ?_, by rw [hlen]; omega⟩
    · rcases List.mem_append.1 hy with hy | hy
      · exact h.rng y hy
      · simp only [List.mem_cons, List.not_mem_nil, or_false] at hy
        subst hy; omega
    · dsimp only at h3 ⊢
      rw [hat j h2] at h3
      split at h3
      · rename_i e; subst e; simp
      · exact List.mem_append_left _ (h.mem j h1 h2 h3)
    · rcases List.mem_append.1 hy with hy | hy
      · have hyr := h.rng y hy
        have := h.nz y hy hya
        obtain ⟨z, rfl⟩ : ∃ z : Nat, y = (z : Int) := ⟨y.toNat, by omega⟩
        dsimp only; rw [hkeep z (by omega) this]; exact this
      · simp only [List.mem_cons, List.not_mem_nil, or_false] at hy
        subst hy; dsimp only; rw [hat q hq, if_pos rfl]; omega
    · dsimp only at h2 ⊢
      rw [hlen] at h2
      by_cases e : s < st.2.length
      · rw [hatq r (by omega), hatq s e]; exact h.mono r s h1 e
      · have es : s = st.2.length := by omega
        subst es
        rw [hlast, hnew]
        by_cases e2 : r < st.2.length
        · rw [hatq r e2]; exact hdle r e2
        · have : r = st.2.length := by omega
          subst this
          rw [hlast, hnew]; omega
    · dsimp only at h1 ⊢
      rw [hlen] at h1
      by_cases e : r < st.2.length
      · rw [hatq r e]; exact h.idx r e
      · have es : r = st.2.length := by omega
        subst es
        rw [hlast, hnew]; omega
    · dsimp only; rw [hatq k hk, hx, hd]; exact htop' j hj
    · have hrl : r < st.2.length := by omega
      dsimp only at hy ⊢
      rw [hpre r hrl] at hy
      rw [hatq r hrl]
      have hrr := h.rng _ (at_mem hrl)
      obtain ⟨z, hz⟩ : ∃ z : Nat, at_ st.2 (r : Int) = (z : Int) := ⟨(at_ st.2 (r : Int)).toNat, by omega⟩
      have hyr := hr z (by omega) y (by rw [← hz]; exact hy)
      exact hsome y hyr.1 hyr.2 _ (h.cmp r h1 y hy hay)
    · dsimp only; rw [hatq k hk, hx, hd]; exact hcmc y hy hay
    · rw [List.nodup_append]
      exact ⟨h.nd, by simp, fun y hy z hz => by simp only [List.mem_cons, List.not_mem_nil, or_false] at hz; subst hz; intro e; subst e; exact hqn hy⟩
    · dsimp only; rw [hlen, hat j hj]; have := h.bnd j hj; split <;> omega
theorem cy1_pre {a : Nat} {x i : Int} {st : List Int × List Int} : st.2 <+: (cy1 a x st i).2 := by
  unfold cy1
  split
  · dsimp only
    split
    · exact List.prefix_refl _
    · exact List.prefix_append _ _
  · exact List.prefix_refl _
theorem CyI.steps {fs : List (List Int)} {a k : Nat} {st : List Int × List Int} (hr : ∀ i : Nat, i < fs.length → ∀ x ∈ at_ fs (i : Int), 0 ≤ x ∧ x < fs.length) (ha : a < fs.length) (h : CyI fs a st k []) (hk : k < st.2.length) : ∀ j, j ≤ (at_ fs (at_ st.2 (k : Int))).length →
    CyI fs a (cyK a (at_ st.2 (k : Int)) st (at_ fs (at_ st.2 (k : Int))) j) k ((at_ fs (at_ st.2 (k : Int))).take j) ∧ st.2 <+: (cyK a (at_ st.2 (k : Int)) st (at_ fs (at_ st.2 (k : Int))) j).2
  | 0, _ => ⟨by simpa [cyK] using h, List.prefix_refl _⟩
  | j + 1, hj => by
    obtain ⟨h1, h2⟩ := CyI.steps hr ha h hk j (by omega)
    have hpk := prefix_at h2 hk
    have := h1.step hr ha (i := at_ (at_ fs (at_ st.2 (k : Int))) (j : Int)) (by have := h2.length_le; omega) (by rw [hpk]; exact at_mem (by omega))
    rw [hpk] at this
    rw [take_next (by omega)]
    exact ⟨this, h2.trans cy1_pre⟩
theorem CyI.next {fs : List (List Int)} {a k : Nat} {st : List Int × List Int} (hk : k < st.2.length) (h : CyI fs a st k (at_ fs (at_ st.2 (k : Int)))) : CyI fs a st (k + 1) [] := by
  refine ⟨h.len, h.hd, h.rng, h.mem, h.nz, h.nn, h.snd, h.mono, h.idx, fun h1 i hi => ?_, fun r h1 x hx hax => ?_, by simp, h.nd, h.bnd, hk⟩
  · have := h.top hk i hi
    have := h.mono k (k + 1) (by omega) h1
    omega
  · by_cases e : r = k
    · subst e; exact h.cmc x hx hax
    · exact h.cmp r (by omega) x hx hax
theorem CyI.fin {fs : List (List Int)} {a : Nat} {st : List Int × List Int} (ha : a < fs.length) (h : CyI fs a st st.2.length []) : AwOk fs a st.1 := by
  refine ⟨h.len, fun i hi => ⟨h.nn i hi, ?_⟩, h.snd, ?_⟩
  · have := h.bnd i hi; have := h.le; omega
  · intro d
    induction d with
    | zero =>
      rintro i h1 h2 ⟨k, e1, e2, _, e4⟩
      have e4 : k = a := e4
      subst e4
      have := h.cmp 0 h.hd.1 (i : Int) (by rw [h.hd.2]; exact e2) (by omega)
      rw [h.hd.2] at this
      unfold dq at this
      rw [if_pos rfl] at this
      exact ⟨this.1, by omega⟩
    | succ d ih =>
      rintro i h1 h2 ⟨k, e1, e2, e3, e4⟩
      have e3 : a < k := by rcases e3 with e | e; exact e; omega
      have g := ih k (by omega) e1 e4
      have hm := h.mem k e3 e1 g.1
      obtain ⟨r, hr, e5⟩ := mem_at hm
      have := h.cmp r hr (i : Int) (by rw [e5]; exact e2) (by omega)
      rw [e5] at this
      unfold dq at this
      rw [if_neg (by omega)] at this
      exact ⟨this.1, by omega⟩
end Go.Aw.S25
/-
  Chapter 25: the cycle of a node.
-/
namespace Go.Aw.S25
open Go.RowKit Go.Proofs Go.Aw.Tab
set_option linter.unusedSimpArgs false
set_option linter.unusedVariables false
set_option maxRecDepth 10000
set_option maxHeartbeats 1000000
set_option pp.deepTerms false
set_option pp.deepTerms.threshold 4
set_option pp.maxSteps 1500
attribute [local simp] Lk.cells Nd.cells Dr.cells Pg.val intC boolC
variable {w0 : World} {n : Nat} {H : Heap} {K : Value → Nat → Heap → Prop} {p : Pg} {D E : Nat → Prop}
/-- Lists that grow side by side. -/
structure FedI (w0 : World) (H0 H : Heap) (n n2 : Nat) (v : Value) (m : Nat) (f : Nat → List Int) : Prop where
  ex : ∃ (rs : List (Value × List Int)) (col : Nat → Nat), OwR ⟨Try.prog, w0⟩ H n2 (· = n) 35 1 (fun r => [r.1]) v rs ∧ rs.length = m ∧ ∀ q : Nat, q < m → (at_ rs (q : Int)).2 = f q ∧ ∃ E, OwR ⟨Try.prog, w0⟩ H n2 E 3 1 intC (at_ rs (q : Int)).1 (f q) ∧ ∀ i, E i → col i = q ∧ n < i
  fr : ∀ i, i < n → H i = H0 i
  le : n + 1 ≤ n2
theorem FedI.cast {H0 H' : Heap} {n2 m : Nat} {v : Value} {f g : Nat → List Int} (h : FedI w0 H0 H' n n2 v m f) (e : ∀ q, q < m → g q = f q) : FedI w0 H0 H' n n2 v m g := by
  obtain ⟨rs, col, h1, h2, h3⟩ := h.ex
  exact ⟨⟨rs, col, h1, h2, fun q hq => by rw [e q hq]; exact h3 q hq⟩, h.fr, h.le⟩
/-- The nodes that feed, before k and the first j of k. -/
def fedAt (fs : List (List Int)) (k j q : Nat) : List Int := selP (fun k' => decide ((q : Int) ∈ at_ fs (k' : Int))) k ++ (if (q : Int) ∈ (at_ fs (k : Int)).take j then [(k : Int)] else [])
theorem fedAt_next {fs : List (List Int)} {k j q i : Nat} (hj : j < (at_ fs (k : Int)).length) (hn : (at_ fs (k : Int)).Nodup) (hi : at_ (at_ fs (k : Int)) (j : Int) = (i : Int)) : fedAt fs k (j + 1) q = if q = i then fedAt fs k j i ++ [(k : Int)] else fedAt fs k j q := by
  unfold fedAt
  rw [take_next hj, hi]
  by_cases e : q = i
  · subst e
    rw [if_pos (by simp), if_pos rfl, if_neg, List.append_nil]
    intro h
    have := List.nodup_append.1 (by rw [← take_next hj]; exact hn.sublist (List.take_sublist (j + 1) _))
    exact this.2.2 _ h _ (by simp) hi.symm
  · rw [if_neg e]
    congr 1
    have : ¬ ((q : Int) = (i : Int)) := by omega
    simp [this]
theorem fedAt_end {fs : List (List Int)} {k q : Nat} : fedAt fs (k + 1) 0 q = fedAt fs k (at_ fs (k : Int)).length q := by
  unfold fedAt
  rw [selP_next, List.take_length]
  simp
theorem fedAt_fin {fs : List (List Int)} {q : Nat} : fedAt fs fs.length 0 q = fedP fs (q : Int) := by
  unfold fedAt fedP
  simp
structure CyR (w0 : World) (H0 H : Heap) (B n2 : Nat) (av qv : Value) (E : Nat → Prop) (st : List Int × List Int) : Prop where
  oa : OwR ⟨Try.prog, w0⟩ H n2 (· = B) 3 1 intC av st.1
  oq : OwR ⟨Try.prog, w0⟩ H n2 E 3 1 intC qv st.2
  ne : ∀ i, E i → B + 1 ≤ i
  fr : ∀ i, i < B → H i = H0 i
  le : B + 1 ≤ n2
/-- While the search goes on. -/
structure CyO (w0 : World) (H0 H : Heap) (B n2 : Nat) (av qv : Value) (E : Nat → Prop) (fs : List (List Int)) (a k : Nat) : Prop where
  ex : ∃ st, CyR w0 H0 H B n2 av qv E st ∧ CyI fs a st k []
theorem cy1_len {a : Nat} {x i : Int} {st : List Int × List Int} : (cy1 a x st i).1.length = st.1.length ∧ (cy1 a x st i).2.length ≤ st.2.length + 1 := by
  unfold cy1
  split
  · dsimp only
    constructor
    · split <;> simp
    · split <;> simp
  · omega
theorem find_at {α : Type} [Inhabited α] {p : α → Bool} {l : List α} {j : Nat} (hj : j < l.length) (h : p (at_ l (j : Int)) = true) (hq : ∀ q : Nat, q < j → p (at_ l (q : Int)) = false) : l.find? p = some (at_ l (j : Int)) := by
  rw [at_nat hj] at h ⊢
  rw [List.find?_eq_some_iff_getElem]
  exact ⟨h, j, hj, rfl, fun q hq2 => by have := hq q hq2; rw [at_nat (by omega)] at this; rw [this]; rfl⟩
theorem find_no {α : Type} [Inhabited α] {p : α → Bool} {l : List α} (hq : ∀ q : Nat, q < l.length → p (at_ l (q : Int)) = false) : l.find? p = none := by
  rw [List.find?_eq_none]
  intro x hx
  obtain ⟨q, h1, e⟩ := mem_at hx
  rw [← e, hq q h1]; simp
/-- While the cycle is made. -/
structure GrI (w0 : World) (H0 H : Heap) (B n2 : Nat) (v : Value) (E : Nat → Prop) (fs : List (List Int)) (a : Nat) (aw R : List Int) (left : Nat) : Prop where
  ex : ∃ out, OwR ⟨Try.prog, w0⟩ H n2 E 3 1 intC v out ∧ grdy fs a aw left out = R ∧ 0 < out.length ∧ (∀ x ∈ out, 0 ≤ x ∧ x < fs.length) ∧ out.length + left ≤ 65
  ne : ∀ i, E i → B ≤ i
  fr : ∀ i, i < B → H i = H0 i
  le : B ≤ n2
theorem cycle_ok {G M a : Nat} {fv gv : Value} {fs : List (List Int)} (hg : H G = .cells [.map (some (new M)), fv, gv] 62 1) (hGn : G < n) (hf : FsR H w0 D fv fs) (hD : ∀ i, D i → i < n) (hl : fs.length ≤ 64) (hfo : GfOk fs) (hnd : ∀ k : Nat, k < fs.length → (at_ fs (k : Int)).Nodup) (ha : a < fs.length)
    (hk : ∀ n' H' v E, n ≤ n' → (∀ i, i < n → H' i = H i) → (∀ i, E i → n ≤ i) → OwR ⟨Try.prog, w0⟩ H' n' E 3 1 intC v (cyc fs a) → K v n' H') : ACall ⟨Try.prog, w0⟩ 40 [.pointer (some ⟨new G, 0, none⟩), .int .i64 (a : Int)] K n H := by
  obtain ⟨rs, hrs, r1, r2⟩ := hf
  have hrl : rs.length = fs.length := by rw [← hrs, List.length_map]
  have hlen : lenK .slice fv = some (fs.length : Int) := by rw [← hrl]; exact r1.lenK
  refine ACall.run Try.func40 rfl Try.ntmps40 Try.results40 (by simp) fun J0 => ?_
  simp (disch := omega) [-hset_if, -Bool.decide_and, hset_ne, hg, hlen]
  refine ⟨by omega, ?_⟩
  have hI : FedI w0 H (hset n (.cells (reps fs.length [.slice none 0 0]) 35 1) H) n (n + 1) (.slice (some ⟨new n, 0, none⟩) fs.length fs.length) fs.length (fedAt fs 0 0) := by
    refine ⟨⟨_, fun _ => 0, OwR.made (C := ⟨Try.prog, w0⟩) (f := fun r : Value × List Int => [r.1]) (x := ((.slice none 0 0 : Value), ([] : List Int))) (z := [.slice none 0 0]) (T := 35) (sz := 1) (n := n + 1) (j := n) (m := fs.length) rfl (by omega) rfl (by omega) (hset_same _ _ _), by simp, fun q hq => ?_⟩, fun i hi => hset_ne (by omega) _ _, by omega⟩
    rw [at_nat (by simpa using hq), List.getElem_replicate]
    have e : fedAt fs 0 0 q = [] := by simp [fedAt, selP]
    rw [e]
    exact ⟨rfl, fun _ => False, OwR.nil (by omega), fun _ h => h.elim⟩
  generalize hset n (.cells (reps fs.length [.slice none 0 0]) 35 1) H = H1 at *
  generalize Value.slice (some ⟨new n, 0, none⟩) fs.length fs.length = fev at *
  have hg1 : H1 G = .cells [.map (some (new M)), fv, gv] 62 1 := by rw [hI.fr G hGn]; exact hg
  simp (disch := omega) [-hset_if, -Bool.decide_and, hset_ne, hg1, hlen]
  refine AW.while (σ := Nat) (fun k => fs.length - k) (fun k => [(0, .pointer (some ⟨new G, 0, none⟩)), (1, .int .i64 (a : Int)), (5, .int .i64 (fs.length : Int)), (6, fev), (30, fv), (31, .int .i64 (fs.length : Int)), (32, .int .i64 (k : Int))])
    (fun k n2 H2 => k ≤ fs.length ∧ FedI w0 H H2 n n2 fev fs.length (fedAt fs k 0)) 0 ?_ ?_ ?_
  · simp (disch := omega) [-hset_if, -Bool.decide_and, hset_ne]
  · exact ⟨by omega, hI⟩
  clear hI hg1
  rintro k n2 H2 ⟨g1, g2⟩
  have r12 := r1.frame (H' := H2) (fun i hi => g2.fr i (hD i hi))
  have hle2 := g2.le
  simp (disch := omega) [-hset_if, -Bool.decide_and, hset_ne]
  refine cif_dec (fun c1 => ?_) (fun c1 => ?_)
  · have hkr : k < rs.length := by omega
    have hkf : at_ fs (k : Int) = (at_ rs (k : Int)).2 := by rw [← hrs]; exact at_map hkr
    have r2k := r2 _ (at_mem hkr)
    have hrg := hfo.rng k (by omega)
    have hln := hfo.len k (by omega)
    have hndk := hnd k (by omega)
    rw [← hkf] at r2k
    simp (disch := omega) [-hset_if, -Bool.decide_and, hset_ne, r12.ix elemS30, r12.load0 shp35, (r2k.frame (H' := H2) (fun i hi => g2.fr i (hD i hi))).lenK]
    refine AW.while (σ := Nat) (fun j => (at_ fs (k : Int)).length - j) (fun j => [(0, .pointer (some ⟨new G, 0, none⟩)), (1, .int .i64 (a : Int)), (5, .int .i64 (fs.length : Int)), (6, fev), (7, .int .i64 (k : Int)), (30, fv), (31, .int .i64 (fs.length : Int)), (32, .int .i64 (k : Int)), (37, (at_ rs (k : Int)).1), (38, .int .i64 ((at_ fs (k : Int)).length : Int)), (39, .int .i64 (j : Int))])
      (fun j n3 H3 => j ≤ (at_ fs (k : Int)).length ∧ FedI w0 H H3 n n3 fev fs.length (fedAt fs k j)) 0 ?_ ?_ ?_
    · simp (disch := omega) [-hset_if, -Bool.decide_and, hset_ne]
    · exact ⟨by omega, g2⟩
    clear g2 r12
    rintro j n3 H3 ⟨l1, l2⟩
    have r23 := r2k.frame (H' := H3) (fun i hi => l2.fr i (hD i hi))
    have hle3 := l2.le
    simp (disch := omega) [-hset_if, -Bool.decide_and, hset_ne]
    refine cif_dec (fun c2 => ?_) (fun c2 => ?_)
    · have hjl : j < (at_ fs (k : Int)).length := by omega
      have hx := hrg _ (at_mem (l := at_ fs (k : Int)) (j := j) hjl)
      obtain ⟨x, hxe⟩ : ∃ x, at_ (at_ fs (k : Int)) (j : Int) = x := ⟨_, rfl⟩
      rw [hxe] at hx
      obtain ⟨i, rfl⟩ := at_drop0 (bs := []) hx.1
      have hnx := fun q => fedAt_next (fs := fs) (q := q) hjl hndk hxe
      have hil : i < fs.length := by omega
      obtain ⟨ds, col, d1, d2, d3⟩ := l2.ex
      obtain ⟨d4, E3, d5, d6⟩ := d3 i hil
      have hfl : (fedAt fs k j i).length ≤ 65 := by
        unfold fedAt
        rw [List.length_append]
        have := selP_len (fun k' => decide ((i : Int) ∈ at_ fs (k' : Int))) k
        split <;> simp <;> omega
      simp (disch := omega) [-hset_if, -Bool.decide_and, hset_ne, r23.ix elemS35, r23.load0 shp3, hxe, d1.sl.ix elemS30, d1.sl.load0 shp35, d2]
      refine d5.push elemS35 zero3 (by simp) (k : Int) rfl rfl rfl (by first | omega | (dsimp only; omega)) (by first | omega | (dsimp only; omega)) ?_
      intro v4 n4 H4 E4 q1 q2 q3 q4 q5
      have d14 := d1.frame (m := n4) (H' := H4) (by omega) (fun x hx => q3 x (by omega) (fun e => by have := d6 x e; omega))
      simp (disch := omega) [-hset_if, -Bool.decide_and, hset_ne, d14.sl.ix elemS30, d2]
      refine d14.store0 shp35 (by omega) (by omega) (v4, fedAt fs k j i ++ [(k : Int)]) (by simp [q5.sl.cells]) rfl (by simp [q5.sl.cells, q5.sl.one]) ?_
      intro H5 e1 e2
      rw [Int.toNat_natCast] at e2
      have hE4 : ∀ x, E4 x → x ≠ n := fun x hx => by rcases q4 x hx with h | h; have := d6 x h; omega; omega
      simp (disch := omega) [-hset_if, -Bool.decide_and, hset_ne]
      refine Next.mk (j + 1) (by first | omega | (dsimp only; omega)) (by simp (disch := omega) [-hset_if, -Bool.decide_and, hset_ne]) ⟨by omega, ⟨⟨_, ext n3 i col, e2, by rw [List.length_set]; exact d2, fun q hq => ?_⟩, fun x hx => by rw [e1 x (by omega), q3 x (by omega) (fun e => by have := d6 x e; omega), l2.fr x hx], by omega⟩⟩
      rw [at_set (by omega)]
      by_cases e : i = q
      · subst e
        rw [hnx i, if_pos rfl, if_pos rfl]
        refine ⟨rfl, E4, q5.frame (by omega) (fun x hx => e1 x (hE4 x hx)), fun x hx => ?_⟩
        unfold ext
        rcases q4 x hx with h | h
        · have h1 := d6 x h
          have h2 := d5.lt x h
          rw [if_pos (by omega)]; exact h1
        · rw [if_neg (by omega)]; exact ⟨rfl, by omega⟩
      · obtain ⟨f4, E6, f5, f6⟩ := d3 q hq
        rw [hnx q, if_neg e, if_neg (fun h => e h.symm)]
        refine ⟨f4, E6, f5.frame (by omega) (fun x hx => ?_), fun x hx => ?_⟩
        · have h1 := f6 x hx
          rw [e1 x (by omega), q3 x (f5.lt x hx) (fun e2 => by have := d6 x e2; omega)]
        · have h1 := f6 x hx
          have h2 := f5.lt x hx
          unfold ext
          rw [if_pos h2]; exact h1
    · have hj : j = (at_ fs (k : Int)).length := by omega
      subst hj
      simp (disch := omega) [-hset_if, -Bool.decide_and, hset_ne]
      exact Next.mk (k + 1) (by first | omega | (dsimp only; omega)) (by simp (disch := omega) [-hset_if, -Bool.decide_and, hset_ne]) ⟨by omega, l2.cast (fun q hq => fedAt_end)⟩
  have hk0 : k = fs.length := by omega
  subst hk0
  obtain ⟨ds, col, d1, d2, d3⟩ := g2.ex
  have hfed : FsR H2 w0 (fun i => n ≤ i ∧ i < n2) fev (fs.mapIdx fun q _ => fedP fs (q : Int)) := by
    refine ⟨ds, ?_, d1.sl.mono (fun i hi => by omega), fun r hr => ?_⟩
    · refine List.ext_getElem (by simp [d2]) fun q h1 h2 => ?_
      have hq : q < fs.length := by simpa using h2
      have := (d3 q hq).1
      rw [at_nat (by omega), fedAt_fin] at this
      simpa using this
    · obtain ⟨q, hq, e⟩ := mem_at hr
      obtain ⟨e1, E, e2, e3⟩ := d3 q (by omega)
      rw [← e, e1]
      exact e2.sl.mono (fun i hi => ⟨by have := e3 i hi; omega, e2.lt i hi⟩)
  have hfr2 := g2.fr
  clear g2 d1 d2 d3
  have hfe : (fs.mapIdx fun q _ => fedP fs (q : Int)).length = fs.length := by simp
  have hfa : ∀ q : Nat, q < fs.length → at_ (fs.mapIdx fun q _ => fedP fs (q : Int)) (q : Int) = fedP fs (q : Int) := fun q hq => by rw [at_nat (by simpa using hq)]; simp
  generalize (fs.mapIdx fun q _ => fedP fs (q : Int)) = fd at *
  obtain ⟨ds, hds, d1, d2⟩ := hfed
  have hdl : ds.length = fs.length := by rw [← hfe, ← hds, List.length_map]
  simp (disch := omega) [-hset_if, -Bool.decide_and, hset_ne]
  refine ⟨by omega, ?_⟩
  have hI : CyO w0 H2 (hset (n2 + 1) (.cells [.int .i64 (a : Int)] 3 1) (hset n2 (.cells (reps fs.length [.int .i64 0]) 3 1) H2)) n2 (n2 + 2) (.slice (some ⟨new n2, 0, none⟩) fs.length fs.length) (.slice (some ⟨new (n2 + 1), 0, none⟩) 1 1) (· = n2 + 1) fs a 0 :=
    ⟨_, ⟨OwR.made (T := 3) (sz := 1) (j := n2) (f := intC) (z := [.int .i64 0]) (x := (0 : Int)) rfl (by omega) rfl (by omega) (by rw [hset_ne (by omega), hset_same]), OwR.lit (xs := [(a : Int)]) (by omega) (by simp) (by omega) (hset_same _ _ _) (by simp) rfl, fun i hi => by omega, fun i hi => by rw [hset_ne (by omega), hset_ne (by omega)], by omega⟩, CyI.init ha⟩
  generalize hset (n2 + 1) (.cells [.int .i64 (a : Int)] 3 1) (hset n2 (.cells (reps fs.length [.int .i64 0]) 3 1) H2) = H3 at *
  generalize Value.slice (some ⟨new n2, 0, none⟩) fs.length fs.length = av at *
  generalize Value.slice (some ⟨new (n2 + 1), 0, none⟩) 1 1 = qv0 at *
  simp (disch := omega) [-hset_if, -Bool.decide_and, hset_ne]
  refine AW.while (σ := EV) (fun s => fs.length - s.j) (fun s => [(0, .pointer (some ⟨new G, 0, none⟩)), (1, .int .i64 (a : Int)), (6, fev), (11, av), (12, s.v), (13, .int .i64 (s.j : Int))])
    (fun s n4 H4 => CyO w0 H2 H4 n2 n4 av s.v s.E fs a s.j) ⟨0, qv0, (· = n2 + 1)⟩ ?_ ?_ ?_
  · simp (disch := omega) [-hset_if, -Bool.decide_and, hset_ne]
  · exact hI
  clear hI
  rintro ⟨k, qv, E4⟩ n4 H4 ⟨st, g1, g2⟩
  dsimp only at g1 g2 ⊢
  have hg4 : H4 G = .cells [.map (some (new M)), fv, gv] 62 1 := by rw [g1.fr G (by omega), hfr2 G hGn]; exact hg
  have r14 := r1.frame (H' := H4) (fun i hi => by have := hD i hi; rw [g1.fr i (by omega), hfr2 i this])
  have hle4 := g1.le
  have hql := g2.le
  have hal := g2.len
  simp (disch := omega) [-hset_if, -Bool.decide_and, hset_ne, g1.oq.sl.lenK]
  refine cif_dec (fun c2 => ?_) (fun c2 => ?_)
  · have hxr := g2.rng _ (at_mem (l := st.2) (j := k) c2)
    obtain ⟨x, hxe⟩ : ∃ x, at_ st.2 (k : Int) = x := ⟨_, rfl⟩
    have hsteps := CyI.steps hfo.rng ha g2 c2
    rw [hxe] at hxr hsteps
    obtain ⟨q, rfl⟩ := at_drop0 (bs := []) (x := x) (by omega)
    have hqr : q < rs.length := by omega
    have hqf : at_ fs (q : Int) = (at_ rs (q : Int)).2 := by rw [← hrs]; exact at_map hqr
    have r2q := r2 _ (at_mem hqr)
    have hrg := hfo.rng q (by omega)
    have hln := hfo.len q (by omega)
    rw [← hqf] at r2q
    simp (disch := omega) [-hset_if, -Bool.decide_and, hset_ne]
    refine AW.draw (X := ⟨_, 165, _, _⟩) (id := 17) mixed (.take 0 <| .take 1 <| .take 2 <| .take 3 <| .take 4 <| .take 5 <| .take 6 <| .take 7 <| .take 8 <| .take 9 <| .take 10 <| .take 11 <| .done) (by kernel_rfl) ?_
    simp (disch := omega) [-hset_if, -Bool.decide_and, hset_ne, hg4, g1.oq.sl.ix elemS35, g1.oq.sl.load0 shp3, hxe, r14.ix elemS30, r14.load0 shp35, (r2q.frame (H' := H4) (fun i hi => by have := hD i hi; rw [g1.fr i (by omega), hfr2 i this])).lenK]
    refine AW.while (σ := EV) (fun s => (at_ fs (q : Int)).length - s.j) (fun s => [(0, .pointer (some ⟨new G, 0, none⟩)), (1, .int .i64 (a : Int)), (6, fev), (11, av), (13, .int .i64 (k : Int)), (74, (at_ rs (q : Int)).1), (75, .int .i64 ((at_ fs (q : Int)).length : Int)), (12, s.v), (76, .int .i64 (s.j : Int))])
      (fun s n5 H5 => s.j ≤ (at_ fs (q : Int)).length ∧ CyR w0 H2 H5 n2 n5 av s.v s.E (cyK a (q : Int) st (at_ fs (q : Int)) s.j)) ⟨0, qv, E4⟩ ?_ ?_ ?_
    · simp (disch := omega) [-hset_if, -Bool.decide_and, hset_ne]
    · exact ⟨by simp, g1⟩
    clear g1 hg4 r14 hle4
    rintro ⟨j, qv5, E5⟩ n5 H5 ⟨l1, l2⟩
    dsimp only at l1 l2 ⊢
    have hle5 := l2.le
    have r25 := r2q.frame (H' := H5) (fun i hi => by have := hD i hi; rw [l2.fr i (by omega), hfr2 i this])
    obtain ⟨s1, s2⟩ := hsteps j l1
    have s3 := prefix_at s2 c2
    have s4 := s2.length_le
    have s5 := s1.le
    have s6 := s1.len
    have s7 : (q : Int) ≠ (a : Int) → at_ (cyK a (q : Int) st (at_ fs (q : Int)) j).1 (q : Int) ≠ 0 := s1.nz (q : Int) (by have h := at_mem (l := (cyK a (q : Int) st (at_ fs (q : Int)) j).2) (j := k) (by omega); rw [s3, hxe] at h; exact h)
    have s8 := s1.nn
    have s9 := s1.bnd
    rw [hxe] at s3
    have hnx : cyK a (q : Int) st (at_ fs (q : Int)) (j + 1) = cy1 a (q : Int) (cyK a (q : Int) st (at_ fs (q : Int)) j) (at_ (at_ fs (q : Int)) (j : Int)) := rfl
    clear s1 s2
    simp (disch := omega) [-hset_if, -Bool.decide_and, hset_ne]
    refine cif_dec (fun c3 => ?_) (fun c3 => ?_)
    · have hjl : j < (at_ fs (q : Int)).length := by omega
      have hi := hrg _ (at_mem (l := at_ fs (q : Int)) (j := j) hjl)
      obtain ⟨i, hie⟩ : ∃ i, at_ (at_ fs (q : Int)) (j : Int) = i := ⟨_, rfl⟩
      rw [hie] at hi hnx
      obtain ⟨y, rfl⟩ := at_drop0 (bs := []) hi.1
      generalize cyK a (q : Int) st (at_ fs (q : Int)) j = sk at *
      unfold cy1 at hnx
      by_cases b1 : (a : Int) ≤ (y : Int)
      rotate_left
      · rw [if_neg (fun e => b1 e.1)] at hnx
        simp (disch := omega) [-hset_if, -Bool.decide_and, hset_ne, r25.ix elemS35, r25.load0 shp3, hie, b1]
        exact Next.mk ⟨j + 1, qv5, E5⟩ (by first | omega | (dsimp only; omega)) (by simp (disch := omega) [-hset_if, -Bool.decide_and, hset_ne]) ⟨(by first | omega | (dsimp only; omega)), by dsimp only; rw [hnx]; exact l2⟩
      by_cases b2 : at_ sk.1 (y : Int) = 0
      rotate_left
      · rw [if_neg (fun e => b2 e.2)] at hnx
        have b3 : (at_ sk.1 (y : Int) == 0) = false := by rw [beq_eq_false_iff_ne]; exact b2
        simp (disch := omega) [-hset_if, -Bool.decide_and, hset_ne, r25.ix elemS35, r25.load0 shp3, hie, b1, l2.oa.sl.ix elemS35, l2.oa.sl.load0 shp3, b3]
        exact Next.mk ⟨j + 1, qv5, E5⟩ (by first | omega | (dsimp only; omega)) (by simp (disch := omega) [-hset_if, -Bool.decide_and, hset_ne]) ⟨(by first | omega | (dsimp only; omega)), by dsimp only; rw [hnx]; exact l2⟩
      rw [if_pos ⟨b1, b2⟩] at hnx
      have b3 : (at_ sk.1 (y : Int) == 0) = true := by rw [beq_iff_eq]; exact b2
      simp (disch := omega) [-hset_if, -Bool.decide_and, hset_ne, r25.ix elemS35, r25.load0 shp3, hie, b1, l2.oa.sl.ix elemS35, l2.oa.sl.load0 shp3, b3]
      refine l2.oa.store0 shp3 (by omega) (by omega) 1 (by simp) (by simp) (by simp) ?_
      intro H6 f1 f2
      rw [Int.toNat_natCast] at f2 hnx
      have oq6 := l2.oq.frame (m := n5) (H' := H6) (Nat.le_refl _) (fun i hi => f1 i (by have := l2.ne i hi; omega))
      have hfr6 : ∀ i, i < n2 → H6 i = H2 i := fun i hi => by rw [f1 i (by omega), l2.fr i hi]
      have hse : (sk.1.set y 1).length = fs.length := by rw [List.length_set]; exact s6
      by_cases b4 : q = a
      · have b5 : ((q : Int) == (a : Int)) = true := by rw [beq_iff_eq]; omega
        have b6 : ((q : Int) != (a : Int)) = false := by simp [b4]
        rw [if_pos (by omega)] at hnx
        simp (disch := omega) [-hset_if, -Bool.decide_and, hset_ne, oq6.sl.ix elemS35, oq6.sl.load0 shp3, s3, b5, b6]
        by_cases b7 : y = a
        · have b8 : ((y : Int) != (a : Int)) = false := by simp [b7]
          rw [if_pos (by omega)] at hnx
          simp (disch := omega) [-hset_if, -Bool.decide_and, hset_ne, b8]
          exact Next.mk ⟨j + 1, qv5, E5⟩ (by first | omega | (dsimp only; omega)) (by simp (disch := omega) [-hset_if, -Bool.decide_and, hset_ne]) ⟨(by first | omega | (dsimp only; omega)), by dsimp only; rw [hnx]; exact ⟨f2, oq6, l2.ne, hfr6, l2.le⟩⟩
        · have b8 : ((y : Int) != (a : Int)) = true := by simp; omega
          rw [if_neg (by omega)] at hnx
          simp (disch := omega) [-hset_if, -Bool.decide_and, hset_ne, b8]
          refine oq6.push elemS35 zero3 (by simp) (y : Int) rfl rfl rfl (by first | omega | (dsimp only; omega)) (by first | omega | (dsimp only; omega)) ?_
          intro v7 n7 H7 E7 q1 q2 q3 q4 q5
          simp (disch := omega) [-hset_if, -Bool.decide_and, hset_ne]
          exact Next.mk ⟨j + 1, v7, E7⟩ (by first | omega | (dsimp only; omega)) (by simp (disch := omega) [-hset_if, -Bool.decide_and, hset_ne]) ⟨(by first | omega | (dsimp only; omega)), by dsimp only; rw [hnx]; exact ⟨f2.frame (by omega) (fun i hi => q3 i (by omega) (fun e => by have := l2.ne i e; omega)), q5, fun i hi => (by rcases q4 i hi with h | h; exact l2.ne i h; omega), fun i hi => by rw [q3 i (by omega) (fun e => by have := l2.ne i e; omega), hfr6 i hi], by omega⟩⟩
      · have b5 : ((q : Int) == (a : Int)) = false := by rw [beq_eq_false_iff_ne]; omega
        have b6 : ((q : Int) != (a : Int)) = true := by simp; omega
        rw [if_neg (by omega)] at hnx
        have c0 := s8 q (by omega)
        have c1 := s9 q (by omega)
        have c2 : at_ (sk.1.set y 1) (q : Int) = at_ sk.1 (q : Int) := by
          rw [at_set (by omega), if_neg]
          intro e; subst e; exact s7 (by omega) b2
        simp (disch := omega) [-hset_if, -Bool.decide_and, hset_ne, oq6.sl.ix elemS35, oq6.sl.load0 shp3, s3, b5, b6]
        simp (disch := omega) [-hset_if, -Bool.decide_and, hset_ne, oq6.sl.ix elemS35, oq6.sl.load0 shp3, s3, f2.sl.ix elemS35, f2.sl.load0 shp3]
        refine f2.store0 shp3 (by omega) (by omega) (at_ (sk.1.set y 1) (q : Int) + 1) (by simp) (by simp) (by simp) ?_
        intro H7 h1 h2
        rw [Int.toNat_natCast] at h2
        have oq7 := oq6.frame (m := n5) (H' := H7) (Nat.le_refl _) (fun i hi => h1 i (by have := l2.ne i hi; omega))
        have hfr7 : ∀ i, i < n2 → H7 i = H2 i := fun i hi => by rw [h1 i (by omega), hfr6 i hi]
        by_cases b7 : y = a
        · have b8 : ((y : Int) != (a : Int)) = false := by simp [b7]
          rw [if_pos (by omega)] at hnx
          simp (disch := omega) [-hset_if, -Bool.decide_and, hset_ne, b8]
          exact Next.mk ⟨j + 1, qv5, E5⟩ (by first | omega | (dsimp only; omega)) (by simp (disch := omega) [-hset_if, -Bool.decide_and, hset_ne]) ⟨(by first | omega | (dsimp only; omega)), by dsimp only; rw [hnx]; exact ⟨h2, oq7, l2.ne, hfr7, l2.le⟩⟩
        · have b8 : ((y : Int) != (a : Int)) = true := by simp; omega
          rw [if_neg (by omega)] at hnx
          simp (disch := omega) [-hset_if, -Bool.decide_and, hset_ne, b8]
          refine oq7.push elemS35 zero3 (by simp) (y : Int) rfl rfl rfl (by first | omega | (dsimp only; omega)) (by first | omega | (dsimp only; omega)) ?_
          intro v7 n7 H8 E7 q1 q2 q3 q4 q5
          simp (disch := omega) [-hset_if, -Bool.decide_and, hset_ne]
          exact Next.mk ⟨j + 1, v7, E7⟩ (by first | omega | (dsimp only; omega)) (by simp (disch := omega) [-hset_if, -Bool.decide_and, hset_ne]) ⟨(by first | omega | (dsimp only; omega)), by dsimp only; rw [hnx]; exact ⟨h2.frame (by omega) (fun i hi => q3 i (by omega) (fun e => by have := l2.ne i e; omega)), q5, fun i hi => (by rcases q4 i hi with h | h; exact l2.ne i h; omega), fun i hi => by rw [q3 i (by omega) (fun e => by have := l2.ne i e; omega), hfr7 i hi], by omega⟩⟩
    · have hj : j = (at_ fs (q : Int)).length := by omega
      subst hj
      simp (disch := omega) [-hset_if, -Bool.decide_and, hset_ne]
      refine Next.mk ⟨k + 1, qv5, E5⟩ (by first | omega | (dsimp only; omega)) (by simp (disch := omega) [-hset_if, -Bool.decide_and, hset_ne]) ⟨_, l2, ?_⟩
      have h1 := (hsteps _ (Nat.le_refl _)).1
      rw [List.take_length] at h1
      refine CyI.next (by omega) ?_
      rw [s3]
      exact h1
  have hkl := g2.kl
  have hkk : k = st.2.length := by omega
  subst hkk
  have hw := g2.fin ha
  have hcy := grdy_cyc ha hw
  have hwn := hw.nn a ha
  have hoa := g1.oa
  generalize st.1 = aw at *
  have hfr4 := g1.fr
  clear g2 g1
  by_cases b1 : at_ aw (a : Int) = 0
  · have b2 : (at_ aw (a : Int) == 0) = true := by rw [beq_iff_eq]; exact b1
    rw [if_pos b1] at hcy
    simp (disch := omega) [-hset_if, -Bool.decide_and, hset_ne, hoa.sl.ix elemS35, hoa.sl.load0 shp3, b2]
    refine Fin_id ?_
    refine hk _ _ _ (fun _ => False) (by omega) (fun i hi => by rw [hfr4 i (by omega), hfr2 i hi]) (fun _ h => h.elim) ?_
    rw [hcy]; exact OwR.nil (by omega)
  have b2 : (at_ aw (a : Int) == 0) = false := by rw [beq_eq_false_iff_ne]; exact b1
  rw [if_neg b1] at hcy
  obtain ⟨d, hd⟩ : ∃ d : Nat, (at_ aw (a : Int)).toNat - 1 = d := ⟨_, rfl⟩
  have hd1 : at_ aw (a : Int) = (d : Int) + 1 := by omega
  rw [hd] at hcy
  simp (disch := omega) [-hset_if, -Bool.decide_and, hset_ne, hoa.sl.ix elemS35, hoa.sl.load0 shp3, b2]
  have hI : GrI w0 H4 (hset n4 (.cells [.int .i64 (a : Int)] 3 1) H4) n4 (n4 + 1) (.slice (some ⟨new n4, 0, none⟩) 1 1) (· = n4) fs a aw (cyc fs a) d :=
    ⟨⟨[(a : Int)], OwR.lit (xs := [(a : Int)]) (by omega) (by simp) (by omega) (hset_same _ _ _) (by simp) rfl, hcy.symm, by simp, fun x hx => by simp only [List.mem_cons, List.not_mem_nil, or_false] at hx; subst hx; omega, by simp; omega⟩, fun i hi => by omega, fun i hi => hset_ne (by omega) _ _, by omega⟩
  have hoa5 : SlR ⟨Try.prog, w0⟩ (hset n4 (.cells [.int .i64 (a : Int)] 3 1) H4) (· = n2) 1 intC av aw := hoa.sl.frame (fun i hi => hset_ne (by omega) _ _)
  have hd1' : at_ aw (a : Int) - 1 = (d : Int) := by omega
  generalize hset n4 (.cells [.int .i64 (a : Int)] 3 1) H4 = H5 at *
  generalize Value.slice (some ⟨new n4, 0, none⟩) 1 1 = ov0 at *
  simp (disch := omega) [-hset_if, -Bool.decide_and, hset_ne, hoa5.ix elemS35, hoa5.load0 shp3, hd1']
  refine AW.while (σ := EV) (fun s => s.j) (fun s => [(1, .int .i64 (a : Int)), (6, fev), (11, av), (16, s.v), (17, .int .i64 (s.j : Int))])
    (fun s n6 H6 => GrI w0 H4 H6 n4 n6 s.v s.E fs a aw (cyc fs a) s.j) ⟨d, ov0, (· = n4)⟩ ?_ ?_ ?_
  · simp (disch := omega) [-hset_if, -Bool.decide_and, hset_ne]
  · exact hI
  clear hI hoa5
  rintro ⟨left, ov, E6⟩ n6 H6 ⟨⟨out, g1, g2, g3, g4, g5⟩, g6, g7, g8⟩
  dsimp only at g1 g2 g5 g6 ⊢
  have hoa6 : SlR ⟨Try.prog, w0⟩ H6 (· = n2) 1 intC av aw := hoa.sl.frame (fun i hi => g7 i (by omega))
  simp (disch := omega) [-hset_if, -Bool.decide_and, hset_ne]
  cases left with
  | zero =>
    have hz : ¬ (0 : Int) < ((0 : Nat) : Int) := by omega
    simp (disch := omega) [-hset_if, -Bool.decide_and, hset_ne, hz]
    refine Fin_id ?_
    refine hk _ _ _ E6 (by omega) (fun i hi => by rw [g7 i (by omega), hfr4 i (by omega), hfr2 i hi]) (fun i hi => by have := g6 i hi; omega) ?_
    rw [← g2]; exact g1
  | succ left =>
    have hz : (0 : Int) < (left : Int) + 1 := by omega
    have hlr := g4 _ (at_mem (l := out) (j := out.length - 1) (by omega))
    obtain ⟨x, hx⟩ : ∃ x : Nat, at_ out ((out.length - 1 : Nat) : Int) = (x : Int) := ⟨(at_ out ((out.length - 1 : Nat) : Int)).toNat, by omega⟩
    have hla : lastI out = (x : Int) := hx
    have hol : (out.length : Int) - 1 = ((out.length - 1 : Nat) : Int) := by omega
    rw [hx] at hlr
    have hxd : x < ds.length := by omega
    have hfx : at_ fd (x : Int) = (at_ ds (x : Int)).2 := by rw [← hds]; exact at_map hxd
    have d2x := (d2 _ (at_mem hxd)).frame (H' := H6) (fun i hi => by rw [g7 i (by omega), hfr4 i (by omega)])
    have d16 := d1.frame (H' := H6) (fun i hi => by rw [g7 i (by omega), hfr4 i (by omega)])
    rw [hfa x (by omega)] at hfx
    rw [← hfx] at d2x
    have hfl : (fedP fs (x : Int)).length ≤ 64 := by
      have := selP_len (fun k => decide ((x : Int) ∈ at_ fs (k : Int))) fs.length
      unfold fedP; omega
    have hfr : ∀ y ∈ fedP fs (x : Int), 0 ≤ y ∧ y < fs.length := fun y hy => by
      obtain ⟨q, e1, e2, rfl⟩ := selP_mem.1 hy
      omega
    conv at g2 => lhs; unfold grdy
    rw [hla] at g2
    generalize fedP fs (x : Int) = fl at *
    simp (disch := omega) [-hset_if, -Bool.decide_and, hset_ne, hz, g1.sl.lenK, hol, g1.sl.ix elemS35, g1.sl.load0 shp3, hx, d16.ix elemS30, d16.load0 shp35, d2x.lenK]
    refine AW.while (σ := Nat) (fun j => fl.length - j) (fun j => [(1, .int .i64 (a : Int)), (6, fev), (11, av), (16, ov), (17, .int .i64 ((left + 1 : Nat) : Int)), (142, (at_ ds (x : Int)).1), (143, .int .i64 (fl.length : Int)), (144, .int .i64 (j : Int))])
      (fun j n7 H7 => n7 = n6 ∧ H7 = H6 ∧ j ≤ fl.length ∧ ∀ q : Nat, q < j → pickB a aw (left + 1) (at_ fl (q : Int)) = false) 0 ?_ ?_ ?_
    · simp (disch := omega) [-hset_if, -Bool.decide_and, hset_ne]
    · exact ⟨rfl, rfl, by omega, by omega⟩
    rintro j _ _ ⟨rfl, rfl, l1, l2⟩
    simp (disch := omega) [-hset_if, -Bool.decide_and, hset_ne]
    refine cif_dec (fun c3 => ?_) (fun c3 => ?_)
    · have hjl : j < fl.length := by omega
      have hy := hfr _ (at_mem (l := fl) (j := j) hjl)
      obtain ⟨y, hye⟩ : ∃ y, at_ fl (j : Int) = y := ⟨_, rfl⟩
      rw [hye] at hy
      have hpb : pickB a aw (left + 1) y = (decide ((a : Int) < y) && decide (at_ aw y = ((left + 1 : Nat) : Int))) := rfl
      have hskip : pickB a aw (left + 1) y = false → ∀ q : Nat, q < j + 1 → pickB a aw (left + 1) (at_ fl (q : Int)) = false := fun e q hq => by
        by_cases e2 : q = j
        · subst e2; rw [hye]; exact e
        · exact l2 q (by omega)
      by_cases b3 : (a : Int) < y
      rotate_left
      · rw [decide_eq_false b3, Bool.false_and] at hpb
        simp (disch := omega) [-hset_if, -Bool.decide_and, hset_ne, d2x.ix elemS35, d2x.load0 shp3, hye, b3]
        exact Next.mk (j + 1) (by first | omega | (dsimp only; omega)) (by simp (disch := omega) [-hset_if, -Bool.decide_and, hset_ne]) ⟨rfl, rfl, by omega, hskip hpb⟩
      rw [decide_eq_true b3, Bool.true_and] at hpb
      by_cases b4 : at_ aw y = (left : Int) + 1
      rotate_left
      · have b5 : (at_ aw y == (left : Int) + 1) = false := by rw [beq_eq_false_iff_ne]; exact b4
        rw [decide_eq_false (by omega)] at hpb
        simp (disch := omega) [-hset_if, -Bool.decide_and, hset_ne, d2x.ix elemS35, d2x.load0 shp3, hye, b3, hoa6.ix elemS35, hoa6.load0 shp3, b5]
        exact Next.mk (j + 1) (by first | omega | (dsimp only; omega)) (by simp (disch := omega) [-hset_if, -Bool.decide_and, hset_ne]) ⟨rfl, rfl, by omega, hskip hpb⟩
      have b5 : (at_ aw y == (left : Int) + 1) = true := by rw [beq_iff_eq]; exact b4
      rw [decide_eq_true (by omega)] at hpb
      have hfd := find_at (p := pickB a aw (left + 1)) hjl (by rw [hye]; exact hpb) l2
      rw [hfd, hye] at g2
      dsimp only at g2
      simp (disch := omega) [-hset_if, -Bool.decide_and, hset_ne, d2x.ix elemS35, d2x.load0 shp3, hye, b3, hoa6.ix elemS35, hoa6.load0 shp3, b5]
      refine g1.push elemS35 zero3 (by simp) y rfl rfl rfl (by first | omega | (dsimp only; omega)) (by first | omega | (dsimp only; omega)) ?_
      intro v8 n8 H8 E8 q1 q2 q3 q4 q5
      simp (disch := omega) [-hset_if, -Bool.decide_and, hset_ne]
      exact Next.mk ⟨left, v8, E8⟩ (by first | omega | (dsimp only; omega)) (by simp (disch := omega) [-hset_if, -Bool.decide_and, hset_ne]) ⟨⟨_, q5, g2, by simp, fun z hz => by
        rcases List.mem_append.1 hz with hz | hz
        · exact g4 z hz
        · simp only [List.mem_cons, List.not_mem_nil, or_false] at hz
          subst hz; exact hy, by simp; omega⟩, fun i hi => by rcases q4 i hi with h | h; exact g6 i h; omega, fun i hi => by rw [q3 i (by omega) (fun e => by have := g6 i e; omega), g7 i hi], by omega⟩
    · have hfd := find_no (p := pickB a aw (left + 1)) (l := fl) (fun q hq => l2 q (by omega))
      rw [hfd] at g2
      dsimp only at g2
      simp (disch := omega) [-hset_if, -Bool.decide_and, hset_ne]
      exact Next.mk ⟨left, ov, E6⟩ (by first | omega | (dsimp only; omega)) (by simp (disch := omega) [-hset_if, -Bool.decide_and, hset_ne]) ⟨⟨_, g1, g2, g3, g4, by dsimp only; omega⟩, g6, g7, g8⟩
end Go.Aw.S25
/-
  Chapter 25: Cycle.
-/
namespace Go.Aw.S25
open Go.RowKit Go.Proofs Go.Aw.Tab
set_option linter.unusedSimpArgs false
set_option linter.unusedVariables false
set_option maxRecDepth 10000
set_option maxHeartbeats 1000000
set_option pp.deepTerms false
set_option pp.deepTerms.threshold 4
set_option pp.maxSteps 1500
attribute [local simp] Lk.cells Nd.cells Dr.cells Pg.val intC boolC
variable {w0 : World} {n : Nat} {H : Heap} {K : Value → Nat → Heap → Prop} {p : Pg} {D E : Nat → Prop}
theorem feeds_nodup {l : List Nd} {b : Bool} {k : Nat} (hk : k < (feedsP l b).length) : (at_ (feedsP l b) (k : Int)).Nodup := by
  rw [feeds_len] at hk
  rw [feeds_at hk]
  have h := feedOf_asc l b k
  unfold Asc at h
  exact h.imp (fun h => by omega)
theorem feeds_take {l : List Nd} {b : Bool} {i k : Nat} (hi : i < l.length) (hk : k < l.length) : takesB l i k b = decide ((i : Int) ∈ at_ (feedsP l b) (k : Int)) := by
  rw [feeds_at hk]
  unfold feedOf feedTo
  rw [Bool.eq_iff_iff, decide_eq_true_iff]
  simp only [List.mem_map, List.mem_filter, List.mem_range]
  constructor
  · intro h; exact ⟨i, ⟨hi, h⟩, rfl⟩
  · rintro ⟨j, ⟨h1, h2⟩, h3⟩
    have : j = i := by omega
    subst this; exact h2
structure CcI (w0 : World) (H0 H : Heap) (n n2 : Nat) (v : Value) (E : Nat → Prop) (xs : List Int) : Prop where
  ou : OwR ⟨Try.prog, w0⟩ H n2 E 3 1 intC v xs
  ne : ∀ i, E i → n ≤ i
  fr : ∀ i, i < n → H i = H0 i
  le : n ≤ n2
theorem cyc_len (fs : List (List Int)) (a : Nat) : (cyc fs a).length ≤ fs.length := by
  by_cases e : cyc fs a = []
  · rw [e]; simp
  · obtain ⟨L, h1, h2, h3, _⟩ := cyc_inv e
    omega
theorem best_len (fs : List (List Int)) : ∀ k, (best fs k).length ≤ fs.length
  | 0 => Nat.zero_le _
  | k + 1 => by
    unfold best
    split
    · exact cyc_len _ _
    · exact best_len fs k
theorem Cycle_ok (hp : PrR H w0 D p) (hD : ∀ i, D i → i < n) (hib : ∀ d ∈ p.nds, d.lks.length ≤ 1000000)
    (hk : checkP p ≠ 0 → ∀ n' H', n ≤ n' → (∀ i, i < n → H' i = H i) → K (.tuple #[.slice none 0 0, .int .i64 (checkP p)]) n' H')
    (hk2 : checkP p = 0 → cycR (feedsP p.nds false) = [] → ∀ n' H', n ≤ n' → (∀ i, i < n → H' i = H i) → K (.tuple #[.slice none 0 0, .int .i64 9]) n' H')
    (hk3 : checkP p = 0 → cycR (feedsP p.nds false) ≠ [] → ∀ n' H' v E, n ≤ n' → (∀ i, i < n → H' i = H i) → (∀ i, E i → n ≤ i) → OwR ⟨Try.prog, w0⟩ H' n' E 3 1 intC v (cycR (feedsP p.nds false)) → K (.tuple #[v, .int .i64 0]) n' H') :
    ACall ⟨Try.prog, w0⟩ 24 [p.val] K n H := by
  refine ACall.run Try.func24 rfl Try.ntmps24 Try.results24 (by simp) fun J0 => ?_
  simp (disch := omega) [-hset_if, -Bool.decide_and, hset_ne]
  try rw [show (Value.agg #[.string p.nm, .int .i64 p.per, p.nv, p.dv]).cells.toList = [.string p.nm, .int .i64 p.per, p.nv, p.dv] from rfl]
  have hbx : hset n (.cells [.string p.nm, .int .i64 p.per, p.nv, p.dv] 25 1) H n = .cells [.string p.nm, .int .i64 p.per, p.nv, p.dv] 25 1 := hset_same _ _ _
  have hfr : ∀ i, i < n → hset n (.cells [.string p.nm, .int .i64 p.per, p.nv, p.dv] 25 1) H i = H i := fun i hi => hset_ne (by omega) _ _
  generalize hset n (.cells [.string p.nm, .int .i64 p.per, p.nv, p.dv] 25 1) H = H1 at *
  have hp1 : PrR H1 w0 D p := hp.frame (fun i hi => hfr i (hD i hi))
  have hnb := hp.nb
  simp (disch := omega) [-hset_if, -Bool.decide_and, hset_ne, hbx]
  refine build_ok hp1 (fun i hi => by have := hD i hi; omega) hib ?_ ?_
  · intro n' H' a1 a2 a3
    have a3b : (checkP p != 0) = true := by simpa using a3
    simp (disch := omega) [-hset_if, -Bool.decide_and, hset_ne, a3b]
    refine Fin_id ?_
    exact hk a3 n' H' (by omega) (fun i hi => by rw [a2 i (by omega), hfr i hi])
  · intro m H2 G M fv gv a1 a2 a3 a4
    have hl := check_len a3
    have hfs := a4.fs
    rw [links_feeds a3] at hfs
    have hGl := a4.lt
    have hfo := feeds_ok p.nds false hl
    have hfl := feeds_len p.nds false
    have hnod := fun k hk => feeds_nodup (l := p.nds) (b := false) (k := k) hk
    have hfr2 : ∀ i, i < n → H2 i = H i := fun i hi => by rw [a2 i (by omega), hfr i hi]
    have hbx2 : H2 n = .cells [.string p.nm, .int .i64 p.per, p.nv, p.dv] 25 1 := by rw [a2 n (by omega)]; exact hbx
    replace hk2 := hk2 a3
    replace hk3 := hk3 a3
    have hgr2 := a4.gr
    generalize feedsP p.nds false = fs at *
    have hln : lenK .slice p.nv = some (fs.length : Int) := by rw [hfl]; exact hp1.ns.lenK
    simp (disch := omega) [-hset_if, -Bool.decide_and, hset_ne, hbx2, hln]
    refine AW.while (σ := EV) (fun s => fs.length - s.j) (fun s => [(4, .pointer (some ⟨new G, 0, none⟩)), (19, .int .i64 (fs.length : Int)), (6, s.v), (20, .int .i64 (s.j : Int))])
      (fun s n3 H3 => s.j ≤ fs.length ∧ CcI w0 H2 H3 m n3 s.v s.E (best fs s.j)) ⟨0, .slice none 0 0, fun _ => False⟩ ?_ ?_ ?_
    · simp (disch := omega) [-hset_if, -Bool.decide_and, hset_ne]
    · exact ⟨by simp, ⟨OwR.nil (by omega), fun _ h => h.elim, fun _ _ => rfl, by omega⟩⟩
    rintro ⟨k, v, E3⟩ n3 H3 ⟨g1, ⟨g2, g3, g4, g5⟩⟩
    dsimp only at g1 g2 g3 ⊢
    have hg3 : H3 G = .cells [.map (some (new M)), fv, gv] 62 1 := by rw [g4 G (by omega)]; exact hgr2
    have hbl := best_len fs k
    simp (disch := omega) [-hset_if, -Bool.decide_and, hset_ne]
    refine cif_dec (fun c1 => ?_) (fun c1 => ?_)
    · have hcl := cyc_len fs k
      have hbe : best fs (k + 1) = if 0 < (cyc fs k).length ∧ ((best fs k).length = 0 ∨ (cyc fs k).length < (best fs k).length) then cyc fs k else best fs k := rfl
      simp (disch := omega) [-hset_if, -Bool.decide_and, hset_ne]
      refine cycle_ok (D := fun i => n ≤ i ∧ i < m) hg3 (by omega) ((hfs.frame (fun i hi => g4 i hi.2)).mono (fun i hi => by omega)) (fun i hi => by omega) (by omega) hfo hnod c1 ?_
      intro n4 H4 v4 E4 b1 b2 b3 b4
      generalize cyc fs k = c at *
      have ou4 := g2.frame (m := n4) (H' := H4) (by omega) (fun i hi => b2 i (g2.lt i hi))
      generalize best fs k = b at *
      have hskip : best fs (k + 1) = b → CcI w0 H2 H4 m n4 v E3 (best fs (k + 1)) := fun e => by rw [e]; exact ⟨ou4, g3, fun i hi => by rw [b2 i (by omega), g4 i hi], by omega⟩
      have htake : best fs (k + 1) = c → CcI w0 H2 H4 m n4 v4 E4 (best fs (k + 1)) := fun e => by rw [e]; exact ⟨b4, fun i hi => by have := b3 i hi; omega, fun i hi => by rw [b2 i (by omega), g4 i hi], by omega⟩
      by_cases e1 : 0 < c.length
      rotate_left
      · rw [if_neg (fun h => e1 h.1)] at hbe
        have e1' : ¬ 0 < c.length := e1
        simp (disch := omega) [-hset_if, -Bool.decide_and, hset_ne, b4.sl.lenK, e1']
        exact Next.mk ⟨k + 1, v, E3⟩ (by first | omega | (dsimp only; omega)) (by simp (disch := omega) [-hset_if, -Bool.decide_and, hset_ne]) ⟨(by first | omega | (dsimp only; omega)), hskip hbe⟩
      have e1' : 0 < c.length := e1
      by_cases e2 : b.length = 0
      · rw [if_pos ⟨e1, .inl e2⟩] at hbe
        have e2' : ((b.length : Int) == 0) = true := by rw [beq_iff_eq]; omega
        simp (disch := omega) [-hset_if, -Bool.decide_and, hset_ne, b4.sl.lenK, ou4.sl.lenK, e1', e2']
        exact Next.mk ⟨k + 1, v4, E4⟩ (by first | omega | (dsimp only; omega)) (by simp (disch := omega) [-hset_if, -Bool.decide_and, hset_ne]) ⟨(by first | omega | (dsimp only; omega)), htake hbe⟩
      have e2' : ((b.length : Int) == 0) = false := by rw [beq_eq_false_iff_ne]; omega
      by_cases e3 : c.length < b.length
      · rw [if_pos ⟨e1, .inr e3⟩] at hbe
        simp (disch := omega) [-hset_if, -Bool.decide_and, hset_ne, b4.sl.lenK, ou4.sl.lenK, e1', e2', e3]
        exact Next.mk ⟨k + 1, v4, E4⟩ (by first | omega | (dsimp only; omega)) (by simp (disch := omega) [-hset_if, -Bool.decide_and, hset_ne]) ⟨(by first | omega | (dsimp only; omega)), htake hbe⟩
      · rw [if_neg (fun h => h.2.elim e2 e3)] at hbe
        simp (disch := omega) [-hset_if, -Bool.decide_and, hset_ne, b4.sl.lenK, ou4.sl.lenK, e1', e2', e3]
        exact Next.mk ⟨k + 1, v, E3⟩ (by first | omega | (dsimp only; omega)) (by simp (disch := omega) [-hset_if, -Bool.decide_and, hset_ne]) ⟨(by first | omega | (dsimp only; omega)), hskip hbe⟩
    · have hk0 : k = fs.length := by omega
      subst hk0
      rw [best_ref] at g2 hbl
      simp (disch := omega) [-hset_if, -Bool.decide_and, hset_ne, g2.sl.lenK]
      by_cases e : cycR fs = []
      · have e2 : (((cycR fs).length : Int) == 0) = true := by rw [e]; rfl
        simp (disch := omega) [-hset_if, -Bool.decide_and, hset_ne, e2]
        refine Fin_id ?_
        exact hk2 e n3 H3 (by omega) (fun i hi => by rw [g4 i (by omega), hfr2 i hi])
      · have e1 := List.length_pos_iff.2 e
        have e2 : (((cycR fs).length : Int) == 0) = false := by rw [beq_eq_false_iff_ne]; omega
        simp (disch := omega) [-hset_if, -Bool.decide_and, hset_ne, e2]
        refine Fin_id ?_
        exact hk3 e n3 H3 v E3 (by omega) (fun i hi => by rw [g4 i (by omega), hfr2 i hi]) (fun i hi => by have := g3 i hi; omega) g2
end Go.Aw.S25
/-
  Chapter 25: the specification's Cycle.
-/
namespace Go.Aw.S25
open Go.RowKit Go.Proofs Go.Aw.Tab
set_option linter.unusedSimpArgs false
set_option linter.unusedVariables false
set_option maxRecDepth 10000
set_option maxHeartbeats 1000000
set_option pp.deepTerms false
set_option pp.deepTerms.threshold 4
set_option pp.maxSteps 1500
attribute [local simp] Lk.cells Nd.cells Dr.cells Pg.val intC boolC
variable {w0 : World} {n : Nat} {H : Heap} {K : Value → Nat → Heap → Prop} {p : Pg} {D E : Nat → Prop}
theorem grown_ok (fs : List (List Int)) (hfs : fs = feedsP p.nds false) (hl : p.nds.length ≤ 64) : ∀ (r : Nat) (way : List Int) (v : Value) (E : Nat → Prop) (n : Nat) (H : Heap) (K : Value → Nat → Heap → Prop) (D : Nat → Prop), PrR H w0 D p → (∀ i, D i → i < n) → SlR ⟨Try.prog, w0⟩ H E 1 intC v way → (∀ i, E i → i < n) →
    0 < way.length → way.length + r ≤ 64 → (∀ x ∈ way, 0 ≤ x ∧ x < p.nds.length) →
    (∀ n' H' v', n ≤ n' → (∀ i, i < n → H' i = H i) → SlR ⟨Try.prog, w0⟩ H' (fun i => i < n') 1 intC v' (grow fs r way) → K v' n' H') →
    ACall ⟨Try.prog, w0⟩ 41 [p.val, v, .int .i64 ((way.length + r : Nat) : Int)] K n H := by
  intro r
  induction r with
  | zero =>
    intro way v E n H K D hp hD hv hE h0 hwl hrg hk
    refine ACall.run Try.func41 rfl Try.ntmps41 Try.results41 (by simp) fun J0 => ?_
    simp (disch := omega) [-hset_if, -Bool.decide_and, hset_ne]
    try rw [show (Value.agg #[.string p.nm, .int .i64 p.per, p.nv, p.dv]).cells.toList = [.string p.nm, .int .i64 p.per, p.nv, p.dv] from rfl]
    have hbx : hset n (.cells [.string p.nm, .int .i64 p.per, p.nv, p.dv] 25 1) H n = .cells [.string p.nm, .int .i64 p.per, p.nv, p.dv] 25 1 := hset_same _ _ _
    have hfr : ∀ i, i < n → hset n (.cells [.string p.nm, .int .i64 p.per, p.nv, p.dv] 25 1) H i = H i := fun i hi => hset_ne (by omega) _ _
    generalize hset n (.cells [.string p.nm, .int .i64 p.per, p.nv, p.dv] 25 1) H = H1 at *
    have hp1 : PrR H1 w0 D p := hp.frame (fun i hi => hfr i (hD i hi))
    have hnb := hp.nb
    have hv1 : SlR ⟨Try.prog, w0⟩ H1 E 1 intC v way := hv.frame (fun i hi => hfr i (hE i hi))
    have hlr := hrg _ (at_mem (l := way) (j := way.length - 1) (by omega))
    obtain ⟨x, hx⟩ : ∃ x : Nat, at_ way ((way.length - 1 : Nat) : Int) = (x : Int) := ⟨(at_ way ((way.length - 1 : Nat) : Int)).toNat, by omega⟩
    have hol : (way.length : Int) - 1 = ((way.length - 1 : Nat) : Int) := by omega
    have hhr := hrg _ (at_mem (l := way) (j := 0) (by omega))
    obtain ⟨y, hy⟩ : ∃ y : Nat, at_ way ((0 : Nat) : Int) = (y : Int) := ⟨(at_ way ((0 : Nat) : Int)).toNat, by omega⟩
    have hy' : at_ way 0 = (y : Int) := hy
    have htk := feeds_take (l := p.nds) (b := false) (i := x) (k := y) (by omega) (by omega)
    have hgr : grow fs 0 way = if lastI way ∈ at_ fs (at_ way ((0 : Nat) : Int)) then way else [] := rfl
    rw [show lastI way = (x : Int) from hx, hy] at hgr
    rw [← hfs] at htk
    simp (disch := omega) [-hset_if, -Bool.decide_and, hset_ne, hv1.lenK, hol, hv1.ix elemS35, hv1.load0 shp3, hx]
    refine AW.draw (X := ⟨_, 61, _, _⟩) (id := 3) mixed (.take 0 <| .take 1 <| .take 2 <| .take 3 <| .take 4 <| .each 5 [] (.done) <| .stop) (by kernel_rfl) ?_
    simp (disch := omega) [-hset_if, -Bool.decide_and, hset_ne, hbx, hv1.ix elemS35, hv1.load0 shp3, hy']
    refine takes_ok hp1 (fun i hi => by have := hD i hi; omega) (by omega) (by omega) ?_
    rw [htk]
    by_cases e : (x : Int) ∈ at_ fs (y : Int)
    · rw [if_pos e] at hgr
      simp (disch := omega) [-hset_if, -Bool.decide_and, hset_ne, e]
      refine Fin_id ?_
      exact hk _ _ _ (by omega) hfr (by rw [hgr]; exact hv1.mono (fun i hi => by have := hE i hi; omega))
    · rw [if_neg e] at hgr
      simp (disch := omega) [-hset_if, -Bool.decide_and, hset_ne, e]
      refine Fin_id ?_
      exact hk _ _ _ (by omega) hfr (by rw [hgr]; exact SlR.nil (by omega))
  | succ r ih =>
    intro way v E n H K D hp hD hv hE h0 hwl hrg hk
    refine ACall.run Try.func41 rfl Try.ntmps41 Try.results41 (by simp) fun J0 => ?_
    simp (disch := omega) [-hset_if, -Bool.decide_and, hset_ne]
    try rw [show (Value.agg #[.string p.nm, .int .i64 p.per, p.nv, p.dv]).cells.toList = [.string p.nm, .int .i64 p.per, p.nv, p.dv] from rfl]
    have hbx : hset n (.cells [.string p.nm, .int .i64 p.per, p.nv, p.dv] 25 1) H n = .cells [.string p.nm, .int .i64 p.per, p.nv, p.dv] 25 1 := hset_same _ _ _
    have hfr : ∀ i, i < n → hset n (.cells [.string p.nm, .int .i64 p.per, p.nv, p.dv] 25 1) H i = H i := fun i hi => hset_ne (by omega) _ _
    generalize hset n (.cells [.string p.nm, .int .i64 p.per, p.nv, p.dv] 25 1) H = H1 at *
    have hp1 : PrR H1 w0 D p := hp.frame (fun i hi => hfr i (hD i hi))
    have hnb := hp.nb
    have hv1 : SlR ⟨Try.prog, w0⟩ H1 E 1 intC v way := hv.frame (fun i hi => hfr i (hE i hi))
    have hlr := hrg _ (at_mem (l := way) (j := way.length - 1) (by omega))
    obtain ⟨x, hx⟩ : ∃ x : Nat, at_ way ((way.length - 1 : Nat) : Int) = (x : Int) := ⟨(at_ way ((way.length - 1 : Nat) : Int)).toNat, by omega⟩
    have hol : (way.length : Int) - 1 = ((way.length - 1 : Nat) : Int) := by omega
    have hhr := hrg _ (at_mem (l := way) (j := 0) (by omega))
    obtain ⟨y, hy⟩ : ∃ y : Nat, at_ way ((0 : Nat) : Int) = (y : Int) := ⟨(at_ way ((0 : Nat) : Int)).toNat, by omega⟩
    have hy' : at_ way 0 = (y : Int) := hy
    have hfl := feeds_len p.nds false
    rw [← hfs] at hfl
    have hgr : grow fs (r + 1) way = firstNE (fun k : Nat => if at_ way ((0 : Nat) : Int) < (k : Int) ∧ (k : Int) ∉ way ∧ lastI way ∈ at_ fs (k : Int) then grow fs r (way ++ [(k : Int)]) else []) (List.range fs.length) := rfl
    rw [show lastI way = (x : Int) from hx, hy] at hgr
    obtain ⟨f, hf⟩ : ∃ f : Nat → List Int, f = fun k : Nat => if (y : Int) < (k : Int) ∧ (k : Int) ∉ way ∧ (x : Int) ∈ at_ fs (k : Int) then grow fs r (way ++ [(k : Int)]) else [] := ⟨_, rfl⟩
    rw [← hf] at hgr
    have hne : ((way.length : Int) == ((way.length + (r + 1) : Nat) : Int)) = false := by rw [beq_eq_false_iff_ne]; omega
    have hne2 : ((way.length : Int) == (way.length : Int) + ((r : Int) + 1)) = false := by rw [beq_eq_false_iff_ne]; omega
    simp (disch := omega) [-hset_if, -Bool.decide_and, hset_ne, hv1.lenK, hol, hv1.ix elemS35, hv1.load0 shp3, hx, hy', hne, hne2]
    refine AW.while (σ := Nat) (fun k => p.nds.length - k) (fun k => [(1, v), (2, .int .i64 ((way.length + (r + 1) : Nat) : Int)), (3, .pointer (some ⟨new n, 0, none⟩)), (7, .int .i64 (x : Int)), (8, .int .i64 (k : Int))])
      (fun k n2 H2 => y < k ∧ k ≤ p.nds.length ∧ n + 1 ≤ n2 ∧ (∀ i, i < n + 1 → H2 i = H1 i) ∧ ∀ q : Nat, q < k → f q = []) (y + 1) ?_ ?_ ?_
    · simp (disch := omega) [-hset_if, -Bool.decide_and, hset_ne]
    · exact ⟨by omega, by omega, by omega, fun _ _ => rfl, fun q hq => by rw [hf]; dsimp only; rw [if_neg (by omega)]⟩
    rintro k n2 H2 ⟨g0, g1, g2, g3, g4⟩
    have hb2 : H2 n = .cells [.string p.nm, .int .i64 p.per, p.nv, p.dv] 25 1 := by rw [g3 n (by omega)]; exact hbx
    have hp2 : PrR H2 w0 D p := hp1.frame (fun i hi => g3 i (by have := hD i hi; omega))
    have hv2 := hv1.frame (H' := H2) (fun i hi => g3 i (by have := hE i hi; omega))
    simp (disch := omega) [-hset_if, -Bool.decide_and, hset_ne, hb2, hp2.ns.lenK]
    refine cif_dec (fun c1 => ?_) (fun c1 => ?_)
    · have hfk : f k = if (y : Int) < (k : Int) ∧ (k : Int) ∉ way ∧ (x : Int) ∈ at_ fs (k : Int) then grow fs r (way ++ [(k : Int)]) else [] := by rw [hf]
      have hskip : f k = [] → ∀ q : Nat, q < k + 1 → f q = [] := fun e q hq => by
        by_cases e2 : q = k
        · subst e2; exact e
        · exact g4 q (by omega)
      have htk := feeds_take (l := p.nds) (b := false) (i := x) (k := k) (by omega) c1
      rw [← hfs] at htk
      simp (disch := omega) [-hset_if, -Bool.decide_and, hset_ne]
      refine has_ok (l := way) (x := (k : Int)) hv2 (by omega) ?_
      by_cases c2 : (k : Int) ∈ way
      · rw [if_neg (fun h => h.2.1 c2)] at hfk
        simp (disch := omega) [-hset_if, -Bool.decide_and, hset_ne, c2]
        exact Next.mk (k + 1) (by first | omega | (dsimp only; omega)) (by simp (disch := omega) [-hset_if, -Bool.decide_and, hset_ne]) ⟨by omega, by omega, by omega, g3, hskip hfk⟩
      simp (disch := omega) [-hset_if, -Bool.decide_and, hset_ne, c2, hb2]
      refine takes_ok hp2 (fun i hi => by have := hD i hi; omega) (by omega) c1 ?_
      rw [htk]
      by_cases c3 : (x : Int) ∈ at_ fs (k : Int)
      rotate_left
      · rw [if_neg (fun h => c3 h.2.2)] at hfk
        simp (disch := omega) [-hset_if, -Bool.decide_and, hset_ne, c3]
        exact Next.mk (k + 1) (by first | omega | (dsimp only; omega)) (by simp (disch := omega) [-hset_if, -Bool.decide_and, hset_ne]) ⟨by omega, by omega, by omega, g3, hskip hfk⟩
      rw [if_pos ⟨by omega, c2, c3⟩] at hfk
      simp (disch := omega) [-hset_if, -Bool.decide_and, hset_ne, c3]
      refine AW.draw (X := ⟨_, 61, _, _⟩) (id := 10) mixed (.take 0 <| .take 2 <| .take 4 <| .take 7 <| .each 1 [0, 2, 4, 7] (.each 3 [0, 4, 7] (.each 5 [0, 7] (.each 6 [0, 7] (.each 8 [] (.take 9 <| .done) <| .stop) <| .stop) <| .stop) <| .each 5 [0, 2, 7] (.each 3 [0, 7] (.each 6 [0, 7] (.each 8 [] (.take 9 <| .done) <| .stop) <| .stop) <| .stop) <| .stop) <| .each 5 [0, 2, 7] (.each 1 [0, 2, 7] (.each 3 [0, 7] (.each 6 [0, 7] (.each 8 [] (.take 9 <| .done) <| .stop) <| .stop) <| .stop) <| .stop) <| .stop) (by kernel_rfl) ?_
      simp (disch := omega) [-hset_if, -Bool.decide_and, hset_ne, hb2]
      have hway : (way ++ [(k : Int)]).length = way.length + 1 := by simp
      have hone : ∀ x ∈ way, oneAll (intC x) = true := fun x _ => by simp
      have hone1 : ∀ x ∈ [(k : Int)], oneAll (intC x) = true := fun x _ => by simp
      have hfin : ∀ n5 H5 v5 E5 (K' : Value → Nat → Heap → Prop), n2 ≤ n5 → (∀ i, i < n2 → H5 i = H2 i) → OwR ⟨Try.prog, w0⟩ H5 n5 E5 3 1 intC v5 (way ++ [(k : Int)]) → (∀ n' H' v', n5 ≤ n' → (∀ i, i < n5 → H' i = H5 i) → SlR ⟨Try.prog, w0⟩ H' (fun i => i < n') 1 intC v' (f k) → K' v' n' H') → ACall ⟨Try.prog, w0⟩ 41 [p.val, v5, .int .i64 ((way.length : Int) + ((r : Int) + 1))] K' n5 H5 := fun n5 H5 v5 E5 K' a1 a2 a3 a4 => by
        rw [hfk] at a4
        have := ih (way ++ [(k : Int)]) v5 E5 n5 H5 K' D (hp2.frame (fun i hi => a2 i (by have := hD i hi; omega))) (fun i hi => by have := hD i hi; omega) a3.sl a3.lt (by omega) (by omega) (fun z hz => by
          rcases List.mem_append.1 hz with hz | hz
          · exact hrg z hz
          · simp only [List.mem_cons, List.not_mem_nil, or_false] at hz
            subst hz; omega) a4
        rw [show (((way ++ [(k : Int)]).length + r : Nat) : Int) = (way.length : Int) + ((r : Int) + 1) by rw [hway]; omega] at this
        exact this
      have hend : ∀ n5 (H5 : Heap), n2 ≤ n5 → (∀ i, i < n2 → H5 i = H2 i) → ∀ n' H' v', n5 ≤ n' → (∀ i, i < n5 → H' i = H5 i) → SlR ⟨Try.prog, w0⟩ H' (fun i => i < n') 1 intC v' (f k) → f k ≠ [] → K v' n' H' := fun n5 H5 a1 a2 n' H' v' b1 b2 b3 b4 => by
        refine hk n' H' v' (by omega) (fun i hi => by rw [b2 i (by omega), a2 i (by omega), g3 i (by omega), hfr i hi]) ?_
        rw [hgr, firstNE_at (by omega) g4 b4]
        exact b3
      have hlw : way.length + 1 ≤ 64 := by omega
      refine ⟨⟨?_, ?_⟩, ?_⟩
      · refine (OwR.empty (n := n2 + 1) (j := n2) (T := 3) (sz := 1) (f := intC) (by omega) (by omega) (hset_same _ _ _)).appendS elemS35 zero3 (by simp) (hv2.frame (fun i hi => hset_ne (by have := hE i hi; omega) _ _)) hone (by simp; omega) (by simp; omega) ?_
        intro v3 n3 H3 E3 b1 b2 b3 b4 b5
        rw [List.nil_append] at b5
        have hf3 : ∀ i, i < n2 → H3 i = H2 i := fun i hi => by rw [b3 i (by omega) (by omega), hset_ne (by omega)]
        have hE3 : ∀ i, E3 i → n2 ≤ i := fun i hi => by rcases b4 i hi with h | h <;> omega
        have hb3 : H3 n = .cells [.string p.nm, .int .i64 p.per, p.nv, p.dv] 25 1 := by rw [hf3 n (by omega)]; exact hb2
        simp (disch := omega) [-hset_if, -Bool.decide_and, hset_ne, hb3]
        refine b5.push elemS35 zero3 (by simp) (k : Int) rfl rfl rfl (by first | omega | (dsimp only; omega)) (by first | omega | (dsimp only; omega)) ?_
        intro v5 n5 H5 E5 q1 q2 q3 q4 o5
        have hf5 : ∀ i, i < n2 → H5 i = H2 i := fun i hi => by rw [q3 i (by omega) (fun e => by have := hE3 i e; omega), hf3 i hi]
        have hb5 : H5 n = .cells [.string p.nm, .int .i64 p.per, p.nv, p.dv] 25 1 := by rw [hf5 n (by omega)]; exact hb2
        simp (disch := omega) [-hset_if, -Bool.decide_and, hset_ne, hb5]
        refine hfin n5 H5 v5 E5 _ (by omega) hf5 o5 ?_
        intro n6 H6 v6 c1 c2 c3
        by_cases c4 : f k = []
        · rw [c4] at c3
          simp (disch := omega) [-hset_if, -Bool.decide_and, hset_ne, c3.lenK]
          exact Next.mk (k + 1) (by first | omega | (dsimp only; omega)) (by simp (disch := omega) [-hset_if, -Bool.decide_and, hset_ne]) ⟨by omega, by omega, by omega, fun i hi => by rw [c2 i (by omega), hf5 i (by omega), g3 i hi], hskip c4⟩
        · have c5 : 0 < (f k).length := List.length_pos_iff.2 c4
          simp (disch := omega) [-hset_if, -Bool.decide_and, hset_ne, c3.lenK, c5]
          refine Fin_id ?_
          exact hend n5 H5 (by omega) hf5 n6 H6 v6 c1 c2 c3 c4
      · refine (OwR.empty (n := n2 + 2) (j := n2) (T := 3) (sz := 1) (f := intC) (by omega) (by omega) (by rw [hset_ne (by omega), hset_same])).appendS elemS35 zero3 (by simp) (hv2.frame (fun i hi => by have := hE i hi; rw [hset_ne (by omega), hset_ne (by omega)])) hone (by simp; omega) (by simp; omega) ?_
        intro v3 n3 H3 E3 b1 b2 b3 b4 b5
        rw [List.nil_append] at b5
        have hf3 : ∀ i, i < n2 → H3 i = H2 i := fun i hi => by rw [b3 i (by omega) (by omega), hset_ne (by omega), hset_ne (by omega)]
        have hE3 : ∀ i, E3 i → n2 ≤ i := fun i hi => by rcases b4 i hi with h | h <;> omega
        have hb3 : H3 n = .cells [.string p.nm, .int .i64 p.per, p.nv, p.dv] 25 1 := by rw [hf3 n (by omega)]; exact hb2
        have hk3 : SlR ⟨Try.prog, w0⟩ H3 (· = n2 + 1) 1 intC (.slice (some ⟨new (n2 + 1), 0, none⟩) 1 1) [(k : Int)] := (OwR.lit (n := n2 + 2) (j := n2 + 1) (T := 3) (xs := [(k : Int)]) (by omega) (by simp) (by omega) (by rw [b3 _ (by omega) (by omega), hset_same]) (by simp) rfl).sl
        simp (disch := omega) [-hset_if, -Bool.decide_and, hset_ne, hb3]
        refine b5.appendS elemS35 zero3 (by simp) hk3 hone1 (by simp; omega) (by simp; omega) ?_
        intro v5 n5 H5 E5 q1 q2 q3 q4 o5
        have hf5 : ∀ i, i < n2 → H5 i = H2 i := fun i hi => by rw [q3 i (by omega) (fun e => by have := hE3 i e; omega), hf3 i hi]
        have hb5 : H5 n = .cells [.string p.nm, .int .i64 p.per, p.nv, p.dv] 25 1 := by rw [hf5 n (by omega)]; exact hb2
        simp (disch := omega) [-hset_if, -Bool.decide_and, hset_ne, hb5]
        refine hfin n5 H5 v5 E5 _ (by omega) hf5 o5 ?_
        intro n6 H6 v6 c1 c2 c3
        by_cases c4 : f k = []
        · rw [c4] at c3
          simp (disch := omega) [-hset_if, -Bool.decide_and, hset_ne, c3.lenK]
          exact Next.mk (k + 1) (by first | omega | (dsimp only; omega)) (by simp (disch := omega) [-hset_if, -Bool.decide_and, hset_ne]) ⟨by omega, by omega, by omega, fun i hi => by rw [c2 i (by omega), hf5 i (by omega), g3 i hi], hskip c4⟩
        · have c5 : 0 < (f k).length := List.length_pos_iff.2 c4
          simp (disch := omega) [-hset_if, -Bool.decide_and, hset_ne, c3.lenK, c5]
          refine Fin_id ?_
          exact hend n5 H5 (by omega) hf5 n6 H6 v6 c1 c2 c3 c4
      · refine (OwR.empty (n := n2 + 2) (j := n2 + 1) (T := 3) (sz := 1) (f := intC) (by omega) (by omega) (hset_same _ _ _)).appendS elemS35 zero3 (by simp) (hv2.frame (fun i hi => by have := hE i hi; rw [hset_ne (by omega), hset_ne (by omega)])) hone (by simp; omega) (by simp; omega) ?_
        intro v3 n3 H3 E3 b1 b2 b3 b4 b5
        rw [List.nil_append] at b5
        have hf3 : ∀ i, i < n2 → H3 i = H2 i := fun i hi => by rw [b3 i (by omega) (by omega), hset_ne (by omega), hset_ne (by omega)]
        have hE3 : ∀ i, E3 i → n2 ≤ i := fun i hi => by rcases b4 i hi with h | h <;> omega
        have hb3 : H3 n = .cells [.string p.nm, .int .i64 p.per, p.nv, p.dv] 25 1 := by rw [hf3 n (by omega)]; exact hb2
        have hk3 : SlR ⟨Try.prog, w0⟩ H3 (· = n2) 1 intC (.slice (some ⟨new n2, 0, none⟩) 1 1) [(k : Int)] := (OwR.lit (n := n2 + 2) (j := n2) (T := 3) (xs := [(k : Int)]) (by omega) (by simp) (by omega) (by rw [b3 _ (by omega) (by omega), hset_ne (by omega), hset_same]) (by simp) rfl).sl
        simp (disch := omega) [-hset_if, -Bool.decide_and, hset_ne, hb3]
        refine b5.appendS elemS35 zero3 (by simp) hk3 hone1 (by simp; omega) (by simp; omega) ?_
        intro v5 n5 H5 E5 q1 q2 q3 q4 o5
        have hf5 : ∀ i, i < n2 → H5 i = H2 i := fun i hi => by rw [q3 i (by omega) (fun e => by have := hE3 i e; omega), hf3 i hi]
        have hb5 : H5 n = .cells [.string p.nm, .int .i64 p.per, p.nv, p.dv] 25 1 := by rw [hf5 n (by omega)]; exact hb2
        simp (disch := omega) [-hset_if, -Bool.decide_and, hset_ne, hb5]
        refine hfin n5 H5 v5 E5 _ (by omega) hf5 o5 ?_
        intro n6 H6 v6 c1 c2 c3
        by_cases c4 : f k = []
        · rw [c4] at c3
          simp (disch := omega) [-hset_if, -Bool.decide_and, hset_ne, c3.lenK]
          exact Next.mk (k + 1) (by first | omega | (dsimp only; omega)) (by simp (disch := omega) [-hset_if, -Bool.decide_and, hset_ne]) ⟨by omega, by omega, by omega, fun i hi => by rw [c2 i (by omega), hf5 i (by omega), g3 i hi], hskip c4⟩
        · have c5 : 0 < (f k).length := List.length_pos_iff.2 c4
          simp (disch := omega) [-hset_if, -Bool.decide_and, hset_ne, c3.lenK, c5]
          refine Fin_id ?_
          exact hend n5 H5 (by omega) hf5 n6 H6 v6 c1 c2 c3 c4
    · have hk0 : k = p.nds.length := by omega
      subst hk0
      have hall := firstNE_no (f := f) (m := fs.length) (fun q hq => g4 q (by omega))
      simp (disch := omega) [-hset_if, -Bool.decide_and, hset_ne]
      refine Fin_id ?_
      exact hk _ _ _ (by omega) (fun i hi => by rw [g3 i (by omega), hfr i hi]) (by rw [hgr, hall]; exact SlR.nil (by omega))
end Go.Aw.S25
/-
  Chapter 25: the specification's Cycle, whole.
-/
namespace Go.Aw.S25
open Go.RowKit Go.Proofs Go.Aw.Tab
set_option linter.unusedSimpArgs false
set_option linter.unusedVariables false
set_option maxRecDepth 10000
set_option maxHeartbeats 1000000
set_option pp.deepTerms false
set_option pp.deepTerms.threshold 4
set_option pp.maxSteps 1500
attribute [local simp] Lk.cells Nd.cells Dr.cells Pg.val intC boolC
variable {w0 : World} {n : Nat} {H : Heap} {K : Value → Nat → Heap → Prop} {p : Pg} {D E : Nat → Prop}
theorem RCycle_ok (hp : PrR H w0 D p) (hD : ∀ i, D i → i < n) (hl : p.nds.length ≤ 64)
    (hk : ∀ n' H' v, n ≤ n' → (∀ i, i < n → H' i = H i) → SlR ⟨Try.prog, w0⟩ H' (fun i => i < n') 1 intC v (cycR (feedsP p.nds false)) → K v n' H') :
    ACall ⟨Try.prog, w0⟩ 25 [p.val] K n H := by
  refine ACall.run Try.func25 rfl Try.ntmps25 Try.results25 (by simp) fun J0 => ?_
  simp (disch := omega) [-hset_if, -Bool.decide_and, hset_ne]
  try rw [show (Value.agg #[.string p.nm, .int .i64 p.per, p.nv, p.dv]).cells.toList = [.string p.nm, .int .i64 p.per, p.nv, p.dv] from rfl]
  have hbx : hset n (.cells [.string p.nm, .int .i64 p.per, p.nv, p.dv] 25 1) H n = .cells [.string p.nm, .int .i64 p.per, p.nv, p.dv] 25 1 := hset_same _ _ _
  have hfr : ∀ i, i < n → hset n (.cells [.string p.nm, .int .i64 p.per, p.nv, p.dv] 25 1) H i = H i := fun i hi => hset_ne (by omega) _ _
  generalize hset n (.cells [.string p.nm, .int .i64 p.per, p.nv, p.dv] 25 1) H = H1 at *
  have hp1 : PrR H1 w0 D p := hp.frame (fun i hi => hfr i (hD i hi))
  have hnb := hp.nb
  have hfl := feeds_len p.nds false
  obtain ⟨fs, hfs⟩ : ∃ fs, fs = feedsP p.nds false := ⟨_, rfl⟩
  rw [← hfs] at hk hfl
  obtain ⟨g, hg⟩ : ∃ g : Nat → List Int, g = fun L => firstNE (fun a : Nat => grow fs L [(a : Int)]) (List.range fs.length) := ⟨_, rfl⟩
  have hcr : cycR fs = firstNE g (List.range fs.length) := by rw [hg]; rfl
  refine AW.while (σ := Nat) (fun k => p.nds.length - k) (fun k => [(1, .pointer (some ⟨new n, 0, none⟩)), (3, .int .i64 ((k : Int) + 1))])
    (fun k n2 H2 => k ≤ p.nds.length ∧ n + 1 ≤ n2 ∧ (∀ i, i < n + 1 → H2 i = H1 i) ∧ ∀ q : Nat, q < k → g q = []) 0 ?_ ?_ ?_
  · simp (disch := omega) [-hset_if, -Bool.decide_and, hset_ne]
  · exact ⟨by omega, by omega, fun _ _ => rfl, by omega⟩
  rintro k n2 H2 ⟨g1, g2, g3, g4⟩
  have hb2 : H2 n = .cells [.string p.nm, .int .i64 p.per, p.nv, p.dv] 25 1 := by rw [g3 n (by omega)]; exact hbx
  have hp2 : PrR H2 w0 D p := hp1.frame (fun i hi => g3 i (by have := hD i hi; omega))
  simp (disch := omega) [-hset_if, -Bool.decide_and, hset_ne, hb2, hp2.ns.lenK]
  refine cif_dec (fun c1 => ?_) (fun c1 => ?_)
  · have hgk : g k = firstNE (fun a : Nat => grow fs k [(a : Int)]) (List.range fs.length) := by rw [hg]
    simp (disch := omega) [-hset_if, -Bool.decide_and, hset_ne]
    refine AW.while (σ := Nat) (fun j => p.nds.length - j) (fun j => [(1, .pointer (some ⟨new n, 0, none⟩)), (3, .int .i64 ((k : Int) + 1)), (4, .int .i64 (j : Int))])
      (fun j n3 H3 => j ≤ p.nds.length ∧ n + 1 ≤ n3 ∧ (∀ i, i < n + 1 → H3 i = H1 i) ∧ ∀ q : Nat, q < j → grow fs k [(q : Int)] = []) 0 ?_ ?_ ?_
    · simp (disch := omega) [-hset_if, -Bool.decide_and, hset_ne]
    · exact ⟨by omega, g2, g3, by omega⟩
    clear g2 g3 hb2 hp2
    rintro j n3 H3 ⟨l1, l2, l3, l4⟩
    have hb3 : H3 n = .cells [.string p.nm, .int .i64 p.per, p.nv, p.dv] 25 1 := by rw [l3 n (by omega)]; exact hbx
    have hp3 : PrR H3 w0 D p := hp1.frame (fun i hi => l3 i (by have := hD i hi; omega))
    simp (disch := omega) [-hset_if, -Bool.decide_and, hset_ne, hb3, hp3.ns.lenK]
    refine cif_dec (fun c2 => ?_) (fun c2 => ?_)
    · simp (disch := omega) [-hset_if, -Bool.decide_and, hset_ne, hb3]
      have hlit : SlR ⟨Try.prog, w0⟩ (hset n3 (.cells [.int .i64 (j : Int)] 3 1) H3) (· = n3) 1 intC (.slice (some ⟨new n3, 0, none⟩) 1 1) [(j : Int)] := (OwR.lit (n := n3 + 1) (j := n3) (T := 3) (xs := [(j : Int)]) (by omega) (by simp) (by omega) (hset_same _ _ _) (by simp) rfl).sl
      have hf4 : ∀ i, i < n3 → hset n3 (.cells [.int .i64 (j : Int)] 3 1) H3 i = H3 i := fun i hi => hset_ne (by omega) _ _
      generalize hset n3 (.cells [.int .i64 (j : Int)] 3 1) H3 = H4 at *
      have hgo := grown_ok (w0 := w0) (p := p) fs hfs hl k [(j : Int)] (.slice (some ⟨new n3, 0, none⟩) 1 1) (· = n3) (n3 + 1) H4
      rw [show ((([(j : Int)].length + k : Nat)) : Int) = (k : Int) + 1 by simp; omega] at hgo
      refine hgo _ D (hp3.frame (fun i hi => hf4 i (by have := hD i hi; omega))) (fun i hi => by have := hD i hi; omega) hlit (fun i hi => by omega) (by simp) (by simp; omega) (fun z hz => by
        simp only [List.mem_cons, List.not_mem_nil, or_false] at hz
        subst hz; omega) ?_
      intro n5 H5 v5 b1 b2 b3
      by_cases e : grow fs k [(j : Int)] = []
      · rw [e] at b3
        simp (disch := omega) [-hset_if, -Bool.decide_and, hset_ne, b3.lenK]
        exact Next.mk (j + 1) (by first | omega | (dsimp only; omega)) (by simp (disch := omega) [-hset_if, -Bool.decide_and, hset_ne]) ⟨by omega, by omega, fun i hi => by rw [b2 i (by omega), hf4 i (by omega), l3 i hi], fun q hq => by
          by_cases e2 : q = j
          · subst e2; exact e
          · exact l4 q (by omega)⟩
      · have e1 : 0 < (grow fs k [(j : Int)]).length := List.length_pos_iff.2 e
        have hga : g k = grow fs k [(j : Int)] := by rw [hgk]; exact firstNE_at (f := fun a : Nat => grow fs k [(a : Int)]) (by omega) l4 e
        simp (disch := omega) [-hset_if, -Bool.decide_and, hset_ne, b3.lenK, e1]
        refine Fin_id ?_
        refine hk _ _ _ (by omega) (fun i hi => by rw [b2 i (by omega), hf4 i (by omega), l3 i (by omega), hfr i hi]) ?_
        rw [hcr, firstNE_at (f := g) (k := k) (by omega) g4 (by rw [hga]; exact e), hga]
        exact b3
    · have hj0 : j = p.nds.length := by omega
      subst hj0
      simp (disch := omega) [-hset_if, -Bool.decide_and, hset_ne]
      exact Next.mk (k + 1) (by first | omega | (dsimp only; omega)) (by simp (disch := omega) [-hset_if, -Bool.decide_and, hset_ne]) ⟨by omega, l2, l3, fun q hq => by
        by_cases e2 : q = k
        · subst e2; rw [hgk]; exact firstNE_no (fun a ha => l4 a (by omega))
        · exact g4 q (by omega)⟩
  · have hk0 : k = p.nds.length := by omega
    subst hk0
    simp (disch := omega) [-hset_if, -Bool.decide_and, hset_ne]
    refine Fin_id ?_
    refine hk _ _ _ (by omega) (fun i hi => by rw [g3 i (by omega), hfr i hi]) ?_
    rw [hcr, firstNE_no (fun q hq => g4 q (by omega))]
    exact SlR.nil (by omega)
end Go.Aw.S25
