/-
  Chapter 56: what a scan does; no program.
-/
import Derived.Test.YtmppccnafhckoaaS56l
namespace Go.Aw.S56
set_option linter.unusedSimpArgs false
set_option linter.unusedVariables false
variable {l : List Load} {s : List Sta} {base limit now : Int}
theorem pwS_setI {c : List Sta} {k : Int} (v : Sta) (hk : 0 ≤ k ∧ k < l.length) (hc : c.length = l.length) :
    pwS l (c.set k.toNat v) = pwS l c - (if (at_ c k).shed then 0 else (at_ l k).pw) + (if v.shed then 0 else (at_ l k).pw) := by
  have := pwS_set (l := l) (s := c) (k := k.toNat) v (by omega) (by omega)
  rw [Int.toNat_of_nonneg hk.1] at this
  exact this
theorem shS_spec (hR : ∀ x ∈ l, rngB x = true) : ∀ (o : List Int) (c : List Sta), o.Nodup → (∀ k ∈ o, 0 ≤ k ∧ k < l.length) → c.length = l.length → (∀ k ∈ o, at_ c k = at_ s k) →
    (shS l base limit now o c).length = l.length ∧ pwS l (shS l base limit now o c) ≤ pwS l c ∧ (∀ k, 0 ≤ k → k ∉ o → at_ (shS l base limit now o c) k = at_ c k) ∧
    (∀ k ∈ o, at_ (shS l base limit now o c) k = at_ s k ∨ at_ (shS l base limit now o c) k = ⟨true, now⟩ ∧ (at_ s k).shed = false ∧ fre (at_ l k) (at_ s k) now = true) ∧
    (limit < base + pwS l (shS l base limit now o c) → ∀ k ∈ o, (at_ s k).shed = false → fre (at_ l k) (at_ s k) now = true → at_ (shS l base limit now o c) k = ⟨true, now⟩)
  | [], c, _, _, hc, _ => by
    exact ⟨hc, Int.le_refl _, fun _ _ _ => rfl, fun _ h => absurd h (by simp), fun _ _ h => absurd h (by simp)⟩
  | k :: r, c, hn, hm, hc, ha => by
    have hk := hm k (List.mem_cons_self ..)
    have hck := ha k (List.mem_cons_self ..)
    have hpw := at_rngI hR hk
    have hn2 := List.nodup_cons.1 hn
    have hm2 : ∀ q ∈ r, 0 ≤ q ∧ q < l.length := fun q hq => hm q (List.mem_cons_of_mem _ hq)
    rw [shS]
    split
    · rename_i hc1
      obtain ⟨c1, c2, c3⟩ := hc1
      have hset : ∀ q ∈ r, at_ (c.set k.toNat ⟨true, now⟩) q = at_ s q := fun q hq => by
        have hne : q ≠ k := fun e => hn2.1 (e ▸ hq)
        have := hm2 q hq
        rw [at_set_ne (by omega)]
        exact ha q (List.mem_cons_of_mem _ hq)
      obtain ⟨h1, h2, h3, h4, h5⟩ := shS_spec hR r (c.set k.toNat ⟨true, now⟩) hn2.2 hm2 (by rw [List.length_set]; exact hc) hset
      have hp := pwS_setI ⟨true, now⟩ hk hc
      rw [c2] at hp
      simp only [Bool.false_eq_true, if_false, if_true] at hp
      have hkk : at_ (shS l base limit now r (c.set k.toNat ⟨true, now⟩)) k = ⟨true, now⟩ := by
        rw [h3 k hk.1 hn2.1, at_set_eq rfl (by omega)]
      refine ⟨h1, by omega, fun q hq0 hq => ?_, fun q hq => ?_, fun hl q hq hs hf => ?_⟩
      · rw [h3 q hq0 (fun e => hq (List.mem_cons_of_mem _ e))]
        have : q ≠ k := fun e => hq (e ▸ List.mem_cons_self ..)
        rw [at_set_ne (by omega)]
      · rcases List.mem_cons.1 hq with rfl | hq
        · exact .inr ⟨hkk, by rw [← hck]; exact c2, by rw [← hck]; exact c3⟩
        · exact h4 q hq
      · rcases List.mem_cons.1 hq with rfl | hq
        · exact hkk
        · exact h5 hl q hq hs hf
    · rename_i hc1
      obtain ⟨h1, h2, h3, h4, h5⟩ := shS_spec hR r c hn2.2 hm2 hc (fun q hq => ha q (List.mem_cons_of_mem _ hq))
      refine ⟨h1, h2, fun q hq0 hq => h3 q hq0 (fun e => hq (List.mem_cons_of_mem _ e)), fun q hq => ?_, fun hl q hq hs hf => ?_⟩
      · rcases List.mem_cons.1 hq with rfl | hq
        · left; rw [h3 q hk.1 hn2.1]; exact hck
        · exact h4 q hq
      · rcases List.mem_cons.1 hq with rfl | hq
        · exact absurd ⟨by omega, by rw [hck]; exact hs, by rw [hck]; exact hf⟩ hc1
        · exact h5 hl q hq hs hf
theorem rsS_spec (hR : ∀ x ∈ l, rngB x = true) : ∀ (o : List Int) (c : List Sta), o.Nodup → (∀ k ∈ o, 0 ≤ k ∧ k < l.length) → c.length = l.length → (∀ k ∈ o, at_ c k = at_ s k) → base + pwS l c ≤ limit →
    (rsS l base limit now o c).length = l.length ∧ pwS l c ≤ pwS l (rsS l base limit now o c) ∧ base + pwS l (rsS l base limit now o c) ≤ limit ∧ (∀ k, 0 ≤ k → k ∉ o → at_ (rsS l base limit now o c) k = at_ c k) ∧
    (∀ k ∈ o, at_ (rsS l base limit now o c) k = at_ s k ∨ at_ (rsS l base limit now o c) k = ⟨false, now⟩ ∧ (at_ s k).shed = true ∧ fre (at_ l k) (at_ s k) now = true) ∧
    (∀ k ∈ o, (at_ (rsS l base limit now o c) k).shed = true → fre (at_ l k) (at_ s k) now = true → limit < base + pwS l (rsS l base limit now o c) + (at_ l k).pw)
  | [], c, _, _, hc, _, hb => by
    exact ⟨hc, Int.le_refl _, hb, fun _ _ _ => rfl, fun _ h => absurd h (by simp), fun _ h => absurd h (by simp)⟩
  | k :: r, c, hn, hm, hc, ha, hb => by
    have hk := hm k (List.mem_cons_self ..)
    have hck := ha k (List.mem_cons_self ..)
    have hpw := at_rngI hR hk
    have hn2 := List.nodup_cons.1 hn
    have hm2 : ∀ q ∈ r, 0 ≤ q ∧ q < l.length := fun q hq => hm q (List.mem_cons_of_mem _ hq)
    rw [rsS]
    split
    · rename_i hc1
      obtain ⟨c1, c2, c3⟩ := hc1
      have hset : ∀ q ∈ r, at_ (c.set k.toNat ⟨false, now⟩) q = at_ s q := fun q hq => by
        have hne : q ≠ k := fun e => hn2.1 (e ▸ hq)
        have := hm2 q hq
        rw [at_set_ne (by omega)]
        exact ha q (List.mem_cons_of_mem _ hq)
      have hp := pwS_setI ⟨false, now⟩ hk hc
      rw [c1] at hp
      simp only [Bool.false_eq_true, if_false, if_true] at hp
      obtain ⟨h1, h2, h2b, h3, h4, h5⟩ := rsS_spec hR r (c.set k.toNat ⟨false, now⟩) hn2.2 hm2 (by rw [List.length_set]; exact hc) hset (by omega)
      have hkk : at_ (rsS l base limit now r (c.set k.toNat ⟨false, now⟩)) k = ⟨false, now⟩ := by
        rw [h3 k hk.1 hn2.1, at_set_eq rfl (by omega)]
      refine ⟨h1, by omega, h2b, fun q hq0 hq => ?_, fun q hq => ?_, fun q hq hs hf => ?_⟩
      · rw [h3 q hq0 (fun e => hq (List.mem_cons_of_mem _ e))]
        have : q ≠ k := fun e => hq (e ▸ List.mem_cons_self ..)
        rw [at_set_ne (by omega)]
      · rcases List.mem_cons.1 hq with rfl | hq
        · exact .inr ⟨hkk, by rw [← hck]; exact c1, by rw [← hck]; exact c2⟩
        · exact h4 q hq
      · rcases List.mem_cons.1 hq with rfl | hq
        · rw [hkk] at hs; cases hs
        · exact h5 q hq hs hf
    · rename_i hc1
      obtain ⟨h1, h2, h2b, h3, h4, h5⟩ := rsS_spec hR r c hn2.2 hm2 hc (fun q hq => ha q (List.mem_cons_of_mem _ hq)) hb
      refine ⟨h1, h2, h2b, fun q hq0 hq => h3 q hq0 (fun e => hq (List.mem_cons_of_mem _ e)), fun q hq => ?_, fun q hq hs hf => ?_⟩
      · rcases List.mem_cons.1 hq with rfl | hq
        · left; rw [h3 q hk.1 hn2.1]; exact hck
        · exact h4 q hq
      · rcases List.mem_cons.1 hq with rfl | hq
        · rw [h3 q hk.1 hn2.1] at hs
          have : ¬ base + pwS l c + (at_ l q).pw ≤ limit := fun e => hc1 ⟨hs, by rw [hck]; exact hf, e⟩
          omega
        · exact h5 q hq hs hf
/-- What a scan keeps. -/
theorem stp_spec (hc : chk l = 0) (hq : s.length = l.length) : (stp l s base limit now).length = l.length ∧ (limit < base + pwS l s ∨ base + pwS l (stp l s base limit now) ≤ limit) ∧ ∀ k : Int, 0 ≤ k → k < l.length →
    ((at_ (stp l s base limit now) k).shed ≠ (at_ s k).shed → fre (at_ l k) (at_ s k) now = true ∧ (at_ (stp l s base limit now) k).shed = decide (limit < base + pwS l s) ∧ (at_ (stp l s base limit now) k).since = now) ∧
    ((at_ (stp l s base limit now) k).shed = (at_ s k).shed → at_ (stp l s base limit now) k = at_ s k) ∧
    (limit < base + pwS l s → limit < base + pwS l (stp l s base limit now) → (at_ (stp l s base limit now) k).shed = false → fre (at_ l k) (at_ s k) now = false) ∧
    (¬ limit < base + pwS l s → (at_ (stp l s base limit now) k).shed = true → fre (at_ l k) (at_ s k) now = true → limit < base + pwS l (stp l s base limit now) + (at_ l k).pw) := by
  have hR := chk_rng hc
  unfold stp
  split
  · rename_i h
    obtain ⟨h1, h2, h3, h4, h5⟩ := shS_spec (s := s) (base := base) (limit := limit) (now := now) hR (ordR l) s ordR_nodup (fun k hk => ordR_mem.1 hk) hq (fun _ _ => rfl)
    generalize shS l base limit now (ordR l) s = t at *
    refine ⟨h1, .inl h, fun k k0 k1 => ?_⟩
    have hk := ordR_mem.2 ⟨k0, k1⟩
    rcases h4 k hk with e | ⟨e, e1, e2⟩
    · rw [e]
      refine ⟨fun x => absurd rfl x, fun _ => rfl, fun _ g1 g2 => ?_, fun x => absurd h x⟩
      cases g3 : fre (at_ l k) (at_ s k) now
      · rfl
      · have := h5 g1 k hk g2 g3
        rw [e] at this; rw [this] at g2; cases g2
    · rw [e]
      refine ⟨fun _ => ⟨e2, by simp [h], rfl⟩, fun x => (by rw [e1] at x; cases x), fun _ _ x => (by cases x), fun x => absurd h x⟩
  · rename_i h
    obtain ⟨h1, h2, h2b, h3, h4, h5⟩ := rsS_spec (s := s) (base := base) (limit := limit) (now := now) hR (ordR l).reverse s ((List.reverse_perm _).nodup_iff.2 ordR_nodup) (fun k hk => ordR_mem.1 (List.mem_reverse.1 hk)) hq (fun _ _ => rfl) (by omega)
    generalize rsS l base limit now (ordR l).reverse s = t at *
    refine ⟨h1, .inr h2b, fun k k0 k1 => ?_⟩
    have hk := List.mem_reverse.2 (ordR_mem.2 ⟨k0, k1⟩)
    rcases h4 k hk with e | ⟨e, e1, e2⟩
    · rw [e]
      refine ⟨fun x => absurd rfl x, fun _ => rfl, fun x => absurd x h, fun _ g1 g2 => ?_⟩
      exact h5 k hk (by rw [e]; exact g1) g2
    · rw [e]
      refine ⟨fun _ => ⟨e2, by simp [h], rfl⟩, fun x => (by rw [e1] at x; cases x), fun x => absurd x h, fun _ x => (by cases x)⟩
/-! ### All loads run and may be shed -/
theorem pwS_all : ∀ {l : List Load} {s : List Sta}, s.length = l.length → (∀ x ∈ s, x.shed = false) → pwS l s = sumP l
  | [], _, _, _ => by simp [pwS, sumP]
  | x :: r, [], h, _ => by simp at h
  | x :: r, y :: t, h, h2 => by
    rw [pwS, h2 y (List.mem_cons_self ..), sumP, pwS_all (l := r) (s := t) (by simpa using h) (fun z hz => h2 z (List.mem_cons_of_mem _ hz))]
    simp
theorem lvl_all : ∀ {l : List Load} {s : List Sta}, (∀ x ∈ l, ∀ y ∈ s, fre x y now = true) → lvl now l s = 0
  | [], _, _ => by simp [lvl]
  | x :: r, [], _ => by simp [lvl]
  | x :: r, y :: t, h => by
    rw [lvl, h x (List.mem_cons_self ..) y (List.mem_cons_self ..), lvl_all (l := r) (s := t) (fun a ha b hb => h a (List.mem_cons_of_mem _ ha) b (List.mem_cons_of_mem _ hb))]
    simp
theorem shS_pre (hR : ∀ x ∈ l, rngB x = true) {o : List Int} {m : Nat} (hn : o.Nodup) (ho : ∀ k ∈ o, 0 ≤ k ∧ k < l.length) (hm : m ≤ o.length) (h1 : ∀ q, q < m → limit < base + sumO l (o.drop q)) (h2 : m < o.length → base + sumO l (o.drop m) ≤ limit) (hs : ∀ k ∈ o, (at_ s k).shed = false ∧ fre (at_ l k) (at_ s k) now = true) :
    ∀ (j : Nat) (c : List Sta), j ≤ o.length → c.length = l.length → AtS o s c j → pwS l c = sumO l (o.drop (min j m)) →
    (∀ i : Nat, j ≤ i → i < o.length → (at_ (shS l base limit now (o.drop j) c) (at_ o (i : Int))).shed = decide (i < m)) := by
  intro j c hj hc ha hp
  obtain ⟨d, hd⟩ : ∃ d, o.length - j = d := ⟨_, rfl⟩
  induction d generalizing j c with
  | zero => intro i hi1 hi2; omega
  | succ d ih =>
    have hjl : j < o.length := by omega
    intro i hi1 hi2
    have hk := ho _ (at_mem (l := o) (j := j) hjl)
    obtain ⟨s1, s2⟩ := hs _ (at_mem (l := o) (j := j) hjl)
    have e := ha.2 j (Nat.le_refl _) hjl
    have hx := shS_spec (s := s) (base := base) (limit := limit) (now := now) hR
    have hdn : (o.drop (j + 1)).Nodup := hn.sublist (List.drop_sublist _ _)
    have hnm : at_ o (j : Int) ∉ o.drop (j + 1) := by
      have := hn
      rw [← List.take_append_drop j o, drop_at hjl] at this
      have := (List.nodup_append.1 this).2.1
      exact (List.nodup_cons.1 this).1
    have hat2 : ∀ c' : List Sta, AtS o s c' (j + 1) → ∀ k ∈ o.drop (j + 1), at_ c' k = at_ s k := fun c' hc' k hk => by
      obtain ⟨q, hq, rfl⟩ := List.getElem_of_mem hk
      have := hc'.2 (j + 1 + q) (by omega) (by simp at hq; omega)
      rw [at_nat (by simp at hq; omega)] at this
      simpa using this
    rw [drop_at hjl, shS, e, s1, s2, hp]
    by_cases hjm : j < m
    · rw [if_pos ⟨by rw [Nat.min_eq_left (by omega)]; exact h1 j hjm, rfl, rfl⟩]
      have hat := ha.set (v := ⟨true, now⟩) hn (fun k hk => (ho k hk).1) hjl
      by_cases hij : i = j
      · subst hij
        have := (hx (o.drop (i + 1)) (c.set (at_ o (i : Int)).toNat ⟨true, now⟩) hdn (fun k hk => ho k (List.mem_of_mem_drop hk)) (by rw [List.length_set]; exact hc) (hat2 _ hat)).2.2.1 _ hk.1 hnm
        rw [this, at_set_eq rfl (by omega)]
        simp [hjm]
      · refine ih (j + 1) _ (by omega) (by rw [List.length_set]; exact hc) hat ?_ (by omega) i (by omega) hi2
        rw [pwS_setI _ hk hc, e, s1, hp, Nat.min_eq_left (by omega), Nat.min_eq_left (by omega), sumO_drop hjl]
        simp; omega
    · rw [if_neg (fun x => by have := x.1; rw [Nat.min_eq_right (by omega)] at this; have := h2 (by omega); omega)]
      by_cases hij : i = j
      · subst hij
        have := (hx (o.drop (i + 1)) c hdn (fun k hk => ho k (List.mem_of_mem_drop hk)) hc (hat2 _ ha.keep)).2.2.1 _ hk.1 hnm
        rw [this, e, s1]
        simp [hjm]
      · refine ih (j + 1) _ (by omega) hc ha.keep ?_ (by omega) i (by omega) hi2
        rw [hp, Nat.min_eq_right (by omega), Nat.min_eq_right (by omega)]
theorem rsS_none : ∀ (o : List Int), (∀ k ∈ o, (at_ s k).shed = false) → rsS l base limit now o s = s
  | [], _ => rfl
  | k :: r, h => by
    rw [rsS, if_neg (fun x => by rw [h k (List.mem_cons_self ..)] at x; exact absurd x.1 (by simp)), rsS_none r (fun q hq => h q (List.mem_cons_of_mem _ hq))]
/-- A scan sheds the least prefix. -/
theorem stp_pre (hc : chk l = 0) (hq : s.length = l.length) {m : Nat} (hm : m ≤ l.length) (h1 : ∀ q, q < m → limit < base + sumO l ((ordR l).drop q)) (h2 : m < l.length → base + sumO l ((ordR l).drop m) ≤ limit) (hs : ∀ x ∈ s, x.shed = false) (hf : ∀ x ∈ l, ∀ y ∈ s, fre x y now = true) {i : Nat} (hi : i < l.length) :
    (at_ (stp l s base limit now) (at_ (ordR l) (i : Int))).shed = decide (i < m) := by
  have hR := chk_rng hc
  have hol : (ordR l).length = l.length := ordR_len
  have hp : pwS l s = sumO l (ordR l) := by rw [pwS_all hq hs, sumO_ordR]
  have hk : ∀ k ∈ ordR l, (at_ s k).shed = false ∧ fre (at_ l k) (at_ s k) now = true := fun k hk => by
    have := ordR_mem.1 hk
    have m1 : at_ s k ∈ s := by rw [at_lt this.1 (by omega)]; exact List.getElem_mem _
    have m2 : at_ l k ∈ l := by rw [at_lt this.1 (by omega)]; exact List.getElem_mem _
    exact ⟨hs _ m1, hf _ m2 _ m1⟩
  unfold stp
  split
  · have := shS_pre (s := s) (base := base) (limit := limit) (now := now) (m := m) hR ordR_nodup (fun k hk => ordR_mem.1 hk) (by omega) h1 (fun h => h2 (by omega)) hk 0 s (by omega) hq ⟨rfl, fun _ _ _ => rfl⟩ (by simpa using hp) i (by omega) (by omega)
    simpa using this
  · rename_i h
    rw [rsS_none _ (fun k hk2 => (hk k (List.mem_reverse.1 hk2)).1), (hk _ (at_mem (by omega))).1]
    have : m = 0 := by
      rcases Nat.eq_zero_or_pos m with e | e
      · exact e
      · have := h1 0 e
        rw [List.drop_zero, ← hp] at this
        exact absurd this h
    subst this
    simp
end Go.Aw.S56
