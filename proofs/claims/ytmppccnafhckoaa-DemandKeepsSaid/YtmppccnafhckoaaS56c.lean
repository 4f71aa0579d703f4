/-
  Chapter 56: the order, the sums, a scan; no program.
-/
import Derived.Test.YtmppccnafhckoaaS56b
import Derived.Test.YtmppccnafhckoaaAw19
namespace Go.Aw.S56
open Go.RowKit Go.Proofs Go.Aw.Tab
set_option linter.unusedSimpArgs false
set_option linter.unusedVariables false
set_option maxRecDepth 10000
set_option maxHeartbeats 1000000
variable {l : List Load}
theorem lsB_eq (x y : ByteArray) : S56.lsB x y = Aw.lsB x y := rfl
theorem chk_stN (h : chk l = 0) : l.length ≤ 64 ∧ stN l l = 0 := by
  unfold chk at h
  split at h
  · omega
  · exact ⟨by omega, h⟩
theorem chk_len (h : chk l = 0) : l.length ≤ 64 := (chk_stN h).1
theorem chk_stD (h : chk l = 0) : stD l 0 = 0 := by
  have := (chk_stN h).2
  unfold stN at this
  split at this
  · omega
  · exact this
theorem dupF_false : ∀ (k j : Nat), dupF l k j = false ↔ ∀ i, j ≤ i → i < j + k → dupAt l i = false
  | 0, j => ⟨fun _ i h1 h2 => by omega, fun _ => rfl⟩
  | k + 1, j => by
    rw [dupF, Bool.or_eq_false_iff, dupF_false k (j + 1)]
    constructor
    · rintro ⟨h1, h2⟩ i h3 h4
      by_cases e : i = j
      · subst e; exact h1
      · exact h2 i (by omega) (by omega)
    · intro h
      exact ⟨h j (by omega) (by omega), fun i h3 h4 => h i (by omega) (by omega)⟩
theorem chk_dup (h : chk l = 0) {i k : Nat} (hi : i < l.length) (hk : k < i) : (at_ l (k : Int)).nm ≠ (at_ l (i : Int)).nm := by
  have h1 := chk_stD h
  unfold stD at h1
  split at h1
  · omega
  · rename_i h2
    rw [Nat.sub_zero, Bool.not_eq_true] at h2
    have h3 := (dupF_false _ _).1 h2 i (by omega) (by omega)
    unfold dupAt at h3
    rw [List.any_eq_false] at h3
    have h4 := h3 (at_ l (k : Int)) (by rw [← at_take hk (by omega)]; exact at_mem (by simp; omega))
    simpa using h4
theorem chk_rng (h : chk l = 0) : ∀ x ∈ l, rngB x = true := by
  have h1 := chk_stD h
  unfold stD at h1
  split at h1
  · omega
  · unfold stR at h1
    split at h1
    · omega
    · rename_i h2; simpa using h2
theorem chk_names (h : chk l = 0) {i k : Int} (hi : 0 ≤ i ∧ i < l.length) (hk : 0 ≤ k ∧ k < l.length) (hne : i ≠ k) : (at_ l i).nm ≠ (at_ l k).nm := by
  obtain ⟨a, rfl⟩ : ∃ a : Nat, i = a := ⟨i.toNat, by omega⟩
  obtain ⟨b, rfl⟩ : ∃ b : Nat, k = b := ⟨k.toNat, by omega⟩
  rcases Nat.lt_trichotomy a b with c | c | c
  · exact chk_dup h (by omega) c
  · omega
  · exact fun e => chk_dup h (by omega) c e.symm
/-! ### The order -/
theorem bef_irr (a : Load) : bef a a = false := by simp [bef, lsB_eq, lsB_irr]
theorem bef_iff {a b : Load} : bef a b = true ↔ b.pr < a.pr ∨ a.pr = b.pr ∧ (b.pw < a.pw ∨ a.pw = b.pw ∧ Aw.lsB a.nm b.nm = true) := by
  unfold bef
  by_cases h1 : a.pr = b.pr
  · by_cases h2 : a.pw = b.pw
    · simp [h1, h2, lsB_eq]
    · simp [h1, h2]
  · simp [h1]
theorem bef_trans {a b c : Load} (h : bef a b = true) (h2 : bef b c = true) : bef a c = true := by
  rw [bef_iff] at *
  rcases h with h | ⟨e, h | ⟨e2, h⟩⟩ <;> rcases h2 with h2 | ⟨f, h2 | ⟨f2, h2⟩⟩
  case inr.inr.inr.inr => exact .inr ⟨by omega, .inr ⟨by omega, lsB_trans h h2⟩⟩
  all_goals first
    | (left; omega)
    | exact .inr ⟨by omega, .inl (by omega)⟩
theorem bef_tot {a b : Load} (h : a.nm ≠ b.nm) : bef a b = true ∨ bef b a = true := by
  unfold bef
  by_cases h1 : a.pr = b.pr
  · by_cases h2 : a.pw = b.pw
    · simp only [h1, h2, ne_eq, not_true_eq_false, if_false]
      exact lsB_tot h
    · have h2' : ¬ b.pw = a.pw := fun e => h2 e.symm
      simp only [h1, ne_eq, not_true_eq_false, if_false, h2, h2', not_false_eq_true, if_true, decide_eq_true_eq]; omega
  · have h1' : ¬ b.pr = a.pr := fun e => h1 e.symm
    simp only [ne_eq, h1, h1', not_false_eq_true, if_true, decide_eq_true_eq]; omega
/-- Load i is shed before load k. -/
def B (l : List Load) (i k : Int) : Bool := bef (at_ l i) (at_ l k)
theorem B_trans {i j k : Int} (h : B l i j = true) (h2 : B l j k = true) : B l i k = true := bef_trans h h2
theorem B_asym {i k : Int} (h : B l i k = true) : ¬ B l k i = true := fun h2 => by
  have := bef_trans h h2; rw [bef_irr] at this; cases this
def ordF (l : List Load) : Nat → List Int
  | 0 => []
  | j + 1 => insW (fun k => B l k (j : Int)) (j : Int) (ordF l j)
/-- The order in which loads are shed. -/
def ordR (l : List Load) : List Int := ordF l l.length
theorem ordF_perm : ∀ j, (ordF l j).Perm ((List.range j).map fun i : Nat => (i : Int))
  | 0 => by simp [ordF]
  | j + 1 => by
    rw [ordF, List.range_succ, List.map_append]
    exact insW_perm.trans ((List.Perm.cons _ (ordF_perm j)).trans (List.perm_append_comm (l₁ := [(j : Int)])))
theorem ordF_mem {j : Nat} {x : Int} : x ∈ ordF l j ↔ 0 ≤ x ∧ x < j := by
  rw [(ordF_perm j).mem_iff, List.mem_map]
  constructor
  · rintro ⟨i, hi, rfl⟩
    have := List.mem_range.1 hi
    omega
  · intro h
    exact ⟨x.toNat, List.mem_range.2 (by omega), by omega⟩
theorem ordF_len (j : Nat) : (ordF l j).length = j := by
  rw [(ordF_perm j).length_eq]; simp
theorem ordF_sorted (h : chk l = 0) : ∀ j, j ≤ l.length → (ordF l j).Pairwise (fun a b => B l a b = true)
  | 0, _ => by simp [ordF]
  | j + 1, hj => by
    rw [ordF]
    refine insW_sorted (R := B l) (fun _ _ _ => B_trans) (ordF_sorted h j (by omega)) fun y hy => ?_
    have := ordF_mem.1 hy
    exact bef_tot (chk_names h ⟨this.1, by omega⟩ ⟨by omega, by omega⟩ (by omega))
theorem ordR_len : (ordR l).length = l.length := ordF_len _
theorem ordR_mem {x : Int} : x ∈ ordR l ↔ 0 ≤ x ∧ x < l.length := ordF_mem
theorem ordR_nodup : (ordR l).Nodup := by
  refine (ordF_perm _).nodup_iff.2 ?_
  refine List.Pairwise.map _ (fun a b (h : a ≠ b) => ?_) List.nodup_range
  omega
/-! ### Sums -/
def sumP : List Load → Int
  | [] => 0
  | x :: r => x.pw + sumP r
def sumO (l : List Load) : List Int → Int
  | [] => 0
  | k :: r => (at_ l k).pw + sumO l r
theorem sumO_perm {o o' : List Int} (h : o.Perm o') : sumO l o = sumO l o' := by
  induction h with
  | nil => rfl
  | cons x _ ih => simp only [sumO, ih]
  | swap x y _ => simp only [sumO]; omega
  | trans _ _ ih1 ih2 => rw [ih1, ih2]
theorem sumO_range : ∀ (j : Nat), j ≤ l.length → sumO l ((List.range j).map fun i : Nat => (i : Int)) = sumP (l.take j)
  | 0, _ => by simp [sumO, sumP]
  | j + 1, h => by
    have ha : ∀ (a b : List Int), sumO l (a ++ b) = sumO l a + sumO l b := fun a b => by
      induction a with
      | nil => simp [sumO]
      | cons x r ih => simp only [List.cons_append, sumO, ih]; omega
    have hp : ∀ (a b : List Load), sumP (a ++ b) = sumP a + sumP b := fun a b => by
      induction a with
      | nil => simp [sumP]
      | cons x r ih => simp only [List.cons_append, sumP, ih]; omega
    rw [List.range_succ, List.map_append, ha, sumO_range j (by omega), take_next (by omega), hp]
    simp [sumO, sumP]
theorem sumO_ordR : sumO l (ordR l) = sumP l := by
  unfold ordR
  rw [sumO_perm (ordF_perm _), sumO_range _ (Nat.le_refl _), List.take_length]
theorem sumP_bound (h : ∀ x ∈ l, rngB x = true) : 0 ≤ sumP l ∧ sumP l ≤ 15625000000 * l.length := by
  induction l with
  | nil => simp [sumP]
  | cons x r ih =>
    have h1 := h x (List.mem_cons_self ..)
    have h2 := ih (fun y hy => h y (List.mem_cons_of_mem _ hy))
    simp only [rngB, decide_eq_true_eq] at h1
    simp only [sumP, List.length_cons]
    omega
theorem sumO_bound (h : ∀ x ∈ l, rngB x = true) {o : List Int} (ho : ∀ k ∈ o, 0 ≤ k ∧ k < l.length) : 0 ≤ sumO l o ∧ sumO l o ≤ 15625000000 * o.length := by
  induction o with
  | nil => simp [sumO]
  | cons k r ih =>
    have hk := ho k (List.mem_cons_self ..)
    have h1 := h (at_ l k) (by rw [at_lt hk.1 hk.2]; exact List.getElem_mem _)
    have h2 := ih (fun y hy => ho y (List.mem_cons_of_mem _ hy))
    simp only [rngB, decide_eq_true_eq] at h1
    simp only [sumO, List.length_cons]
    omega
theorem pw_bound (h : ∀ x ∈ l, rngB x = true) {k : Int} (hk : 0 ≤ k ∧ k < l.length) : rngB (at_ l k) = true := h _ (by rw [at_lt hk.1 hk.2]; exact List.getElem_mem _)
/-- The power of the loads that are not shed. -/
def pwS : List Load → List Sta → Int
  | x :: r, s :: t => (if s.shed then 0 else x.pw) + pwS r t
  | _, _ => 0
theorem pwS_bound : ∀ {l : List Load} {s : List Sta}, (∀ x ∈ l, rngB x = true) → 0 ≤ pwS l s ∧ pwS l s ≤ 15625000000 * l.length
  | [], s, _ => by simp [pwS]
  | x :: r, [], h => by simp only [pwS, List.length_cons]; omega
  | x :: r, s :: t, h => by
    have h1 := h x (List.mem_cons_self ..)
    have h2 := pwS_bound (l := r) (s := t) (fun y hy => h y (List.mem_cons_of_mem _ hy))
    simp only [rngB, decide_eq_true_eq] at h1
    simp only [pwS, List.length_cons]
    split <;> omega
theorem pwS_set : ∀ {l : List Load} {s : List Sta} {k : Nat} (v : Sta), k < l.length → k < s.length →
    pwS l (s.set k v) = pwS l s - (if (at_ s (k : Int)).shed then 0 else (at_ l (k : Int)).pw) + (if v.shed then 0 else (at_ l (k : Int)).pw)
  | [], _, _, _, h, _ => by simp at h
  | _ :: _, [], _, _, _, h => by simp at h
  | x :: r, s :: t, 0, v, _, _ => by
    have e0 : at_ (x :: r) ((0 : Nat) : Int) = x := by simp [at_]
    have e1 : at_ (s :: t) ((0 : Nat) : Int) = s := by simp [at_]
    rw [e0, e1]
    simp only [List.set_cons_zero, pwS]; omega
  | x :: r, s :: t, k + 1, v, h1, h2 => by
    have e0 : at_ (x :: r) ((k + 1 : Nat) : Int) = at_ r (k : Int) := by simp [at_]
    have e1 : at_ (s :: t) ((k + 1 : Nat) : Int) = at_ t (k : Int) := by simp [at_]
    rw [e0, e1]
    simp only [List.set_cons_succ, pwS]
    rw [pwS_set v (by simpa using h1) (by simpa using h2)]; omega
/-- The least prefix and what remains. -/
def shd (l : List Load) (base limit : Int) : Nat → List Int → Option (Nat × Int)
  | n, [] => if base ≤ limit then some (n, base) else none
  | n, k :: r => if base + sumO l (k :: r) ≤ limit then some (n, base + sumO l (k :: r)) else shd l base limit (n + 1) r
/-- A load may change. -/
def fre (ld : Load) (s : Sta) (now : Int) : Bool := if s.shed then decide (ld.off ≤ now - s.since) else decide (ld.on ≤ now - s.since)
def shS (l : List Load) (base limit now : Int) : List Int → List Sta → List Sta
  | [], s => s
  | k :: r, s => if limit < base + pwS l s ∧ (at_ s k).shed = false ∧ fre (at_ l k) (at_ s k) now = true then shS l base limit now r (s.set k.toNat ⟨true, now⟩) else shS l base limit now r s
def rsS (l : List Load) (base limit now : Int) : List Int → List Sta → List Sta
  | [], s => s
  | k :: r, s => if (at_ s k).shed = true ∧ fre (at_ l k) (at_ s k) now = true ∧ base + pwS l s + (at_ l k).pw ≤ limit then rsS l base limit now r (s.set k.toNat ⟨false, now⟩) else rsS l base limit now r s
/-- The states after a scan. -/
def stp (l : List Load) (s : List Sta) (base limit now : Int) : List Sta := if limit < base + pwS l s then shS l base limit now (ordR l) s else rsS l base limit now (ordR l).reverse s
/-- What cannot be shed. -/
def lvl (now : Int) : List Load → List Sta → Int
  | x :: r, s :: t => (if s.shed = false ∧ fre x s now = false then x.pw else 0) + lvl now r t
  | _, _ => 0
/-- The error of states and an instant. -/
def rdy (l : List Load) (s : List Sta) (now : Int) : Int :=
  if s.length ≠ l.length ∨ ¬ (0 ≤ now ∧ now ≤ 6311433599) ∨ s.all (fun x => decide (0 ≤ x.since ∧ x.since ≤ 6311433599)) = false then 1
  else if s.all (fun x => decide (x.since ≤ now)) = false then 8 else 0
end Go.Aw.S56
