/-
  Chapter 25: what depends on a node, plain: the rounds reach all that is behind it.
-/
import Derived.Test.YtmjhbococmnppaaS25C
namespace Go.Aw.S25
open Go.RowKit Go.Proofs Go.Aw.Tab
set_option linter.unusedSimpArgs false
set_option linter.unusedVariables false
/-- Node k is looked at. -/
def bh1 (ft : List (List Int)) (sb ob : List Bool) (k : Nat) : List Bool := ob.set k (at_ ob (k : Int) || (at_ ft (k : Int)).any fun x => at_ sb x || at_ ob x)
def bhK (ft : List (List Int)) (sb ob : List Bool) : Nat → List Bool
  | 0 => ob
  | k + 1 => bh1 ft sb (bhK ft sb ob k) k
def bhM (ft : List (List Int)) (sb : List Bool) : Nat → List Bool
  | 0 => List.replicate sb.length false
  | r + 1 => bhK ft sb (bhM ft sb r) ft.length
theorem bh1_len (ft : List (List Int)) (sb ob : List Bool) (k : Nat) : (bh1 ft sb ob k).length = ob.length := by unfold bh1; rw [List.length_set]
theorem bhK_len (ft : List (List Int)) (sb ob : List Bool) : ∀ k, (bhK ft sb ob k).length = ob.length
  | 0 => rfl
  | k + 1 => by unfold bhK; rw [bh1_len, bhK_len]
theorem bhM_len (ft : List (List Int)) (sb : List Bool) : ∀ k, (bhM ft sb k).length = sb.length
  | 0 => by simp [bhM]
  | k + 1 => by unfold bhM; rw [bhK_len, bhM_len]
theorem at_set {α : Type} [Inhabited α] {l : List α} {i j : Nat} {x : α} (hj : j < l.length) : at_ (l.set i x) (j : Int) = if i = j then x else at_ l (j : Int) := by
  rw [at_nat (by rw [List.length_set]; exact hj), at_nat hj, List.getElem_set]
theorem bh1_at {ft : List (List Int)} {sb ob : List Bool} {k j : Nat} (hj : j < ob.length) : at_ (bh1 ft sb ob k) (j : Int) = (at_ ob (j : Int) || (decide (k = j) && (at_ ft (k : Int)).any fun x => at_ sb x || at_ ob x)) := by
  unfold bh1
  rw [at_set hj]
  by_cases h : k = j
  · subst h; simp
  · simp [h]
theorem bh1_alt (ft : List (List Int)) (sb ob : List Bool) (k : Nat) (hk : k < ob.length) : bh1 ft sb ob k = ob ∨ ob.count true < (bh1 ft sb ob k).count true := by
  unfold bh1
  cases h : at_ ob (k : Int) with
  | true =>
    left
    rw [Bool.true_or, ← h, at_nat hk]
    exact List.set_getElem_self hk
  | false =>
    rw [at_nat hk] at h
    cases h2 : (at_ ft (k : Int)).any fun x => at_ sb x || at_ ob x with
    | true =>
      right
      rw [List.count_set hk, h]
      simp
    | false =>
      left
      rw [Bool.or_self]
      conv => lhs; rw [← h]
      exact List.set_getElem_self hk
theorem bhK_alt (ft : List (List Int)) (sb ob : List Bool) : ∀ k, k ≤ ob.length → bhK ft sb ob k = ob ∨ ob.count true < (bhK ft sb ob k).count true
  | 0, _ => .inl rfl
  | k + 1, hk => by
    have ih := bhK_alt ft sb ob k (by omega)
    have h1 := bh1_alt ft sb (bhK ft sb ob k) k (by rw [bhK_len]; omega)
    unfold bhK
    rcases ih with e | e
    · rw [e] at h1 ⊢; exact h1
    · rcases h1 with h1 | h1
      · rw [h1]; exact .inr e
      · exact .inr (by omega)
theorem bhK_mono (ft : List (List Int)) (sb ob : List Bool) (k : Nat) : ∀ j, k + j ≤ ob.length → (bhK ft sb ob k).count true ≤ (bhK ft sb ob (k + j)).count true
  | 0, _ => Nat.le_refl _
  | j + 1, hj => by
    have ih := bhK_mono ft sb ob k j (by omega)
    have h1 := bh1_alt ft sb (bhK ft sb ob (k + j)) (k + j) (by rw [bhK_len]; omega)
    rw [show k + (j + 1) = (k + j) + 1 by omega, show bhK ft sb ob (k + j + 1) = bh1 ft sb (bhK ft sb ob (k + j)) (k + j) from rfl]
    rcases h1 with h1 | h1
    · rw [h1]; exact ih
    · omega
/-- Nothing more can be reached. -/
def BhCl (ft : List (List Int)) (sb ob : List Bool) : Prop := ∀ k : Nat, k < ft.length → ∀ x ∈ at_ ft (k : Int), (at_ sb x || at_ ob x) = true → at_ ob (k : Int) = true
theorem bhK_fix {ft : List (List Int)} {sb ob : List Bool} (hl : ob.length = ft.length) (h : bhK ft sb ob ft.length = ob) : BhCl ft sb ob := by
  intro k hk x hx h2
  have hj : bhK ft sb ob k = ob := by
    rcases bhK_alt ft sb ob k (by omega) with e | e
    · exact e
    · have := bhK_mono ft sb ob k (ft.length - k) (by omega)
      rw [show k + (ft.length - k) = ft.length by omega, h] at this
      omega
  have hj1 : bhK ft sb ob (k + 1) = ob := by
    rcases bhK_alt ft sb ob (k + 1) (by omega) with e | e
    · exact e
    · have := bhK_mono ft sb ob (k + 1) (ft.length - (k + 1)) (by omega)
      rw [show k + 1 + (ft.length - (k + 1)) = ft.length by omega, h] at this
      omega
  rw [bhK, hj] at hj1
  have h3 := bh1_at (ft := ft) (sb := sb) (ob := ob) (k := k) (j := k) (by omega)
  rw [hj1, decide_eq_true rfl, Bool.true_and, List.any_eq_true.2 ⟨x, hx, h2⟩, Bool.or_true] at h3
  exact h3
theorem count_le_len (l : List Bool) : l.count true ≤ l.length := List.count_le_length
theorem all_of_count {l : List Bool} (h : l.count true = l.length) {k : Nat} (hk : k < l.length) : at_ l (k : Int) = true := by
  rw [at_nat hk]
  exact ((List.count_eq_length.1 h) _ (List.getElem_mem hk)).symm
theorem bhM_alt (ft : List (List Int)) (sb : List Bool) (hl : sb.length = ft.length) : ∀ r, bhK ft sb (bhM ft sb r) ft.length = bhM ft sb r ∨ r ≤ (bhM ft sb r).count true
  | 0 => .inr (Nat.zero_le _)
  | r + 1 => by
    have ih := bhM_alt ft sb hl r
    have hml := bhM_len ft sb r
    rcases bhK_alt ft sb (bhM ft sb r) ft.length (by omega) with e | e
    · left
      unfold bhM
      rw [e, e]
    · rcases ih with ih | ih
      · rw [ih] at e; omega
      · right
        unfold bhM
        omega
theorem bhM_closed (ft : List (List Int)) (sb : List Bool) (hl : sb.length = ft.length) : BhCl ft sb (bhM ft sb ft.length) := by
  have hml := bhM_len ft sb ft.length
  rcases bhM_alt ft sb hl ft.length with e | e
  · exact bhK_fix (by omega) e
  · intro k hk x hx h2
    refine all_of_count ?_ (by omega)
    have := count_le_len (bhM ft sb ft.length)
    omega
/-- Node k depends on one of some. -/
inductive Bh (ft : List (List Int)) (sb : List Bool) : Nat → Prop
  | one {x : Int} {k : Nat} (h : k < ft.length) (hx : x ∈ at_ ft (k : Int)) (hs : at_ sb x = true) : Bh ft sb k
  | more {i k : Nat} (h : k < ft.length) (hi : Bh ft sb i) (hx : (i : Int) ∈ at_ ft (k : Int)) : Bh ft sb k
def BhS (ft : List (List Int)) (sb ob : List Bool) : Prop := ob.length = ft.length ∧ ∀ k : Nat, k < ft.length → at_ ob (k : Int) = true → Bh ft sb k
theorem bh1_sound {ft : List (List Int)} {sb ob : List Bool} {k : Nat} (hr : ∀ i : Nat, i < ft.length → ∀ x ∈ at_ ft (i : Int), 0 ≤ x ∧ x < ft.length) (hk : k < ft.length) (h : BhS ft sb ob) : BhS ft sb (bh1 ft sb ob k) := by
  obtain ⟨h1, h2⟩ := h
  refine ⟨by rw [bh1_len]; exact h1, fun j hj ha => ?_⟩
  rw [bh1_at (by omega)] at ha
  rcases Bool.or_eq_true_iff.1 ha with hb | hb
  · exact h2 j hj hb
  · rw [Bool.and_eq_true, decide_eq_true_iff] at hb
    obtain ⟨e, hc⟩ := hb
    subst e
    obtain ⟨x, hx, ha⟩ := List.any_eq_true.1 hc
    rcases Bool.or_eq_true_iff.1 ha with ha | ha
    · exact .one hj hx ha
    · have hxr := hr k hj x hx
      obtain ⟨q, rfl⟩ : ∃ q : Nat, x = (q : Int) := ⟨x.toNat, by omega⟩
      exact .more hj (h2 q (by omega) ha) hx
theorem bhK_sound {ft : List (List Int)} {sb ob : List Bool} (hr : ∀ i : Nat, i < ft.length → ∀ x ∈ at_ ft (i : Int), 0 ≤ x ∧ x < ft.length) (h : BhS ft sb ob) : ∀ k, k ≤ ft.length → BhS ft sb (bhK ft sb ob k)
  | 0, _ => h
  | k + 1, hk => bh1_sound hr (by omega) (bhK_sound hr h k (by omega))
theorem bhM_sound {ft : List (List Int)} {sb : List Bool} (hr : ∀ i : Nat, i < ft.length → ∀ x ∈ at_ ft (i : Int), 0 ≤ x ∧ x < ft.length) (hl : sb.length = ft.length) : ∀ r, BhS ft sb (bhM ft sb r)
  | 0 => ⟨by simp [bhM, hl], fun k hk ha => by
      unfold bhM at ha
      rw [at_nat (by simpa [hl] using hk)] at ha
      simp at ha⟩
  | r + 1 => bhK_sound hr (bhM_sound hr hl r) _ (Nat.le_refl _)
theorem bhM_iff {ft : List (List Int)} {sb : List Bool} (hr : ∀ i : Nat, i < ft.length → ∀ x ∈ at_ ft (i : Int), 0 ≤ x ∧ x < ft.length) (hl : sb.length = ft.length) {k : Nat} (hk : k < ft.length) : at_ (bhM ft sb ft.length) (k : Int) = true ↔ Bh ft sb k := by
  constructor
  · exact (bhM_sound hr hl _).2 k hk
  · intro h
    have hc := bhM_closed ft sb hl
    induction h with
    | one h hx hs => exact hc _ h _ hx (by rw [hs]; rfl)
    | more h hi hx ih =>
      have hxr := hr _ h _ hx
      exact hc _ h _ hx (by rw [ih (by omega)]; simp)
/-- Only node i. -/
def single (m i : Nat) : List Bool := (List.replicate m false).set i true
theorem single_len (m i : Nat) : (single m i).length = m := by simp [single]
theorem single_at {m i j : Nat} (hj : j < m) : at_ (single m i) (j : Int) = decide (i = j) := by
  unfold single
  rw [at_set (by simpa using hj), at_nat (by simpa using hj)]
  simp only [List.getElem_replicate]
  by_cases h : i = j <;> simp [h]
/-- What a drive depends on. -/
inductive Us (ft : List (List Int)) (ls : List Int) : Int → Prop
  | src {x : Int} (h : x ∈ ls) : Us ft ls x
  | more {k x : Int} (h : Us ft ls k) (hx : x ∈ at_ ft k) : Us ft ls x
def usedB (ft : List (List Int)) (ls : List Int) (i : Nat) : Bool := ls.any fun s => decide (s = (i : Int)) || at_ (bhM ft (single ft.length i) ft.length) s
def idleP (ft : List (List Int)) (ls : List Int) : List Int := ((List.range ft.length).filter fun i => !(usedB ft ls i)).map fun (i : Nat) => (i : Int)
structure Rng (ft : List (List Int)) (ls : List Int) : Prop where
  f : ∀ i : Nat, i < ft.length → ∀ x ∈ at_ ft (i : Int), 0 ≤ x ∧ x < ft.length
  l : ∀ x ∈ ls, 0 ≤ x ∧ x < ft.length
theorem Us.rng {ft : List (List Int)} {ls : List Int} (hr : Rng ft ls) {x : Int} (h : Us ft ls x) : 0 ≤ x ∧ x < ft.length := by
  induction h with
  | src h => exact hr.l _ h
  | @more k x h hx ih =>
    obtain ⟨q, rfl⟩ : ∃ q : Nat, k = (q : Int) := ⟨k.toNat, by omega⟩
    exact hr.f q (by omega) _ hx
theorem Bh.lt {ft : List (List Int)} {sb : List Bool} {k : Nat} (h : Bh ft sb k) : k < ft.length := by cases h <;> assumption
theorem Bh.trans {ft : List (List Int)} {k x s : Nat} (hr : ∀ i : Nat, i < ft.length → ∀ x ∈ at_ ft (i : Int), 0 ≤ x ∧ x < ft.length) (h1 : Bh ft (single ft.length x) k) (h : Bh ft (single ft.length k) s) : Bh ft (single ft.length x) s := by
  induction h with
  | @one y s h hx hs =>
    have hxr := hr _ h _ hx
    obtain ⟨q, rfl⟩ : ∃ q : Nat, y = (q : Int) := ⟨y.toNat, by omega⟩
    rw [single_at (by omega), decide_eq_true_iff] at hs
    subst hs
    exact .more h h1 hx
  | more h hi hx ih => exact .more h ih hx
theorem Bh.us {ft : List (List Int)} {ls : List Int} {i s : Nat} (hr : ∀ i : Nat, i < ft.length → ∀ x ∈ at_ ft (i : Int), 0 ≤ x ∧ x < ft.length) (h : Bh ft (single ft.length i) s) (hs : Us ft ls (s : Int)) : Us ft ls (i : Int) := by
  induction h with
  | @one y s h hx he =>
    have hxr := hr _ h _ hx
    obtain ⟨q, rfl⟩ : ∃ q : Nat, y = (q : Int) := ⟨y.toNat, by omega⟩
    rw [single_at (by omega), decide_eq_true_iff] at he
    subst he
    exact .more hs hx
  | more h hi hx ih => exact ih (.more hs hx)
theorem usedB_iff {ft : List (List Int)} {ls : List Int} (hr : Rng ft ls) {i : Nat} (hi : i < ft.length) : usedB ft ls i = true ↔ Us ft ls (i : Int) := by
  unfold usedB
  rw [List.any_eq_true]
  constructor
  · rintro ⟨s, hs, h⟩
    rcases Bool.or_eq_true_iff.1 h with h | h
    · rw [decide_eq_true_iff] at h
      subst h
      exact .src hs
    · have hsr := hr.l s hs
      obtain ⟨q, rfl⟩ : ∃ q : Nat, s = (q : Int) := ⟨s.toNat, by omega⟩
      rw [bhM_iff hr.f (single_len _ _) (by omega)] at h
      exact h.us hr.f (.src hs)
  · intro h
    obtain ⟨x, hx⟩ : ∃ x : Int, x = (i : Int) := ⟨_, rfl⟩
    rw [← hx] at h
    induction h generalizing i with
    | @src x h => exact ⟨x, h, by simp [hx]⟩
    | @more k x h hk ih =>
      have hkr := h.rng hr
      obtain ⟨q, rfl⟩ : ∃ q : Nat, k = (q : Int) := ⟨k.toNat, by omega⟩
      obtain ⟨s, hs, h2⟩ := ih (i := q) (by omega) rfl
      subst hx
      have h1 : Bh ft (single ft.length i) q := .one (by omega) hk (by rw [single_at hi]; simp)
      refine ⟨s, hs, ?_⟩
      have hsr := hr.l s hs
      obtain ⟨r, rfl⟩ : ∃ q : Nat, s = (q : Int) := ⟨s.toNat, by omega⟩
      rw [Bool.or_eq_true_iff]; right
      rw [bhM_iff hr.f (single_len _ _) (by omega)]
      rcases Bool.or_eq_true_iff.1 h2 with h2 | h2
      · rw [decide_eq_true_iff] at h2
        have : r = q := by omega
        subst this
        exact h1
      · rw [bhM_iff hr.f (single_len _ _) (by omega)] at h2
        exact Bh.trans hr.f h1 h2
/-- A node is visited. -/
def vis1 (st : List Bool × List Int) (x : Int) : List Bool × List Int := if at_ st.1 x then st else (st.1.set x.toNat true, st.2 ++ [x])
def visK (st : List Bool × List Int) (l : List Int) : Nat → List Bool × List Int
  | 0 => st
  | j + 1 => vis1 (visK st l j) (at_ l (j : Int))
/-- What is used so far, and the queue. -/
structure Uq (ft : List (List Int)) (ls : List Int) (st : List Bool × List Int) : Prop where
  len : st.1.length = ft.length
  mem : ∀ i : Nat, i < ft.length → (at_ st.1 (i : Int) = true ↔ (i : Int) ∈ st.2)
  us : ∀ x ∈ st.2, Us ft ls x
  cnt : st.1.count true = st.2.length
theorem Uq.le {ft : List (List Int)} {ls : List Int} {st : List Bool × List Int} (h : Uq ft ls st) : st.2.length ≤ ft.length := by
  have := count_le_len st.1
  have := h.cnt; have := h.len
  omega
theorem vis1_ok {ft : List (List Int)} {ls : List Int} {st : List Bool × List Int} (hr : Rng ft ls) (h : Uq ft ls st) {x : Int} (hx : Us ft ls x) : Uq ft ls (vis1 st x) ∧ x ∈ (vis1 st x).2 ∧ st.2 <+: (vis1 st x).2 := by
  have hxr := hx.rng hr
  obtain ⟨q, rfl⟩ : ∃ q : Nat, x = (q : Int) := ⟨x.toNat, by omega⟩
  have hl := h.len
  unfold vis1
  cases hb : at_ st.1 (q : Int) with
  | true => exact ⟨h, (h.mem q (by omega)).1 hb, List.prefix_refl _⟩
  | false =>
    simp only [Bool.false_eq_true, if_false, Int.toNat_natCast]
    refine ⟨⟨by rw [List.length_set]; exact h.len, fun i hi => ?_, fun y hy => ?_, ?_⟩, by simp, List.prefix_append _ _⟩
    · rw [at_set (by omega)]
      have := h.mem i hi
      by_cases e : q = i
      · subst e; simp
      · rw [if_neg e, this, List.mem_append]
        have : ¬ ((i : Int) = (q : Int)) := by omega
        simp [this]
    · rcases List.mem_append.1 hy with hy | hy
      · exact h.us y hy
      · simp only [List.mem_cons, List.not_mem_nil, or_false] at hy
        subst hy; exact hx
    · have hc := h.cnt
      rw [at_nat (by omega)] at hb
      rw [List.count_set (by omega), hb, List.length_append]
      simp [hc]
theorem visK_ok {ft : List (List Int)} {ls : List Int} {st : List Bool × List Int} {l : List Int} (hr : Rng ft ls) (h : Uq ft ls st) (hx : ∀ x ∈ l, Us ft ls x) : ∀ k, k ≤ l.length → Uq ft ls (visK st l k) ∧ (∀ x ∈ l.take k, x ∈ (visK st l k).2) ∧ st.2 <+: (visK st l k).2
  | 0, _ => ⟨h, by simp, List.prefix_refl _⟩
  | k + 1, hk => by
    obtain ⟨h1, h2, h3⟩ := visK_ok hr h hx k (by omega)
    obtain ⟨e1, e2, e3⟩ := vis1_ok hr h1 (hx (at_ l (k : Int)) (at_mem (by omega)))
    refine ⟨e1, fun x hx => ?_, h3.trans e3⟩
    rw [take_next (by omega), List.mem_append] at hx
    rcases hx with hx | hx
    · exact e3.subset (h2 x hx)
    · simp only [List.mem_cons, List.not_mem_nil, or_false] at hx
      subst hx; exact e2
/-- The end: all that is used. -/
theorem Uq.fin {ft : List (List Int)} {ls : List Int} {st : List Bool × List Int} (hr : Rng ft ls) (h : Uq ft ls st) (h1 : ∀ x ∈ ls, x ∈ st.2) (h2 : ∀ q : Nat, q < st.2.length → ∀ x ∈ at_ ft (at_ st.2 (q : Int)), x ∈ st.2) {i : Nat} (hi : i < ft.length) : at_ st.1 (i : Int) = usedB ft ls i := by
  rw [Bool.eq_iff_iff, h.mem i hi, usedB_iff hr hi]
  constructor
  · exact h.us _
  · intro hu
    generalize (i : Int) = x at hu
    induction hu with
    | src h => exact h1 _ h
    | @more k x h hk ih =>
      obtain ⟨q, hq, e⟩ := mem_at ih
      exact h2 q hq x (by rw [e]; exact hk)
end Go.Aw.S25
/-
  Chapter 25: what depends on a node.
-/
namespace Go.Aw.S25
open Go.RowKit Go.Proofs Go.Aw.Tab
set_option linter.unusedSimpArgs false
set_option linter.unusedVariables false
set_option maxRecDepth 10000
set_option maxHeartbeats 1000000
set_option pp.deepTerms false
set_option pp.deepTerms.threshold 4
set_option pp.maxSteps 1500
attribute [local simp] Lk.cells Nd.cells Dr.cells Pg.val intC boolC
variable {w0 : World} {n : Nat} {H : Heap} {K : Value → Nat → Heap → Prop} {p : Pg} {D E : Nat → Prop}
structure BhI (w0 : World) (H0 H : Heap) (n : Nat) (sv ov : Value) (ob : List Bool) : Prop where
  bs : H n = .cells [sv] 64 1
  bv : H (n + 2) = .cells [ov] 64 1
  ow : OwR ⟨Try.prog, w0⟩ H (n + 3) (· = n + 1) 4 1 boolC ov ob
  fr : ∀ i, i < n → H i = H0 i
theorem behind_ok {G M : Nat} {fv gv sv : Value} {ft : List (List Int)} {sb : List Bool} (hg : H G = .cells [.map (some (new M)), fv, gv] 62 1) (hGn : G < n) (hf : FsR H w0 D gv ft) (hD : ∀ i, D i → i < n) (hs : SlR ⟨Try.prog, w0⟩ H E 1 boolC sv sb) (hE : ∀ i, E i → i < n)
    (hl : ft.length ≤ 64) (hsl : sb.length = ft.length) (hfo : GfOk ft)
    (hk : ∀ n' H' v E', n ≤ n' → (∀ i, i < n → H' i = H i) → (∀ i, E' i → n ≤ i) → OwR ⟨Try.prog, w0⟩ H' n' E' 4 1 boolC v (bhM ft sb ft.length) → K v n' H') : ACall ⟨Try.prog, w0⟩ 42 [.pointer (some ⟨new G, 0, none⟩), sv] K n H := by
  obtain ⟨rs, hrs, r1, r2⟩ := hf
  have hrl : rs.length = ft.length := by rw [← hrs, List.length_map]
  have hent : entB Try.prog 50 = true := by kernel_rfl
  have hsc := hs.cells
  refine ACall.run Try.func42 rfl Try.ntmps42 Try.results42 (by simp) fun J0 => ?_
  simp (disch := omega) [-hset_if, -Bool.decide_and, hset_ne, hg, hs.lenK, hsc]
  refine ⟨by omega, ?_⟩
  have hI : BhI w0 H (hset (n + 2) (.cells [.slice (some ⟨new (n + 1), 0, none⟩) sb.length sb.length] 64 1) (hset (n + 1) (.cells (reps sb.length [.bool false]) 4 1) (hset n (.cells [sv] 64 1) H))) n sv (.slice (some ⟨new (n + 1), 0, none⟩) sb.length sb.length) (bhM ft sb 0) :=
    ⟨by simp (disch := omega) [-hset_if, -Bool.decide_and, hset_ne], by simp (disch := omega) [-hset_if, -Bool.decide_and, hset_ne], OwR.made (T := 4) (sz := 1) (j := n + 1) (z := [.bool false]) (x := false) rfl (by omega) rfl (by omega) (by rw [hset_ne (by omega), hset_same]), (fun i hi => by simp (disch := omega) only [hset_ne])⟩
  generalize hset (n + 2) (.cells [.slice (some ⟨new (n + 1), 0, none⟩) sb.length sb.length] 64 1) (hset (n + 1) (.cells (reps sb.length [.bool false]) 4 1) (hset n (.cells [sv] 64 1) H)) = H1 at *
  generalize Value.slice (some ⟨new (n + 1), 0, none⟩) sb.length sb.length = ov at *
  have hg1 : H1 G = .cells [.map (some (new M)), fv, gv] 62 1 := by rw [hI.fr G hGn]; exact hg
  have hlen : lenK .slice gv = some (ft.length : Int) := by rw [← hrl]; exact r1.lenK
  simp (disch := omega) [-hset_if, -Bool.decide_and, hset_ne, hg1, hlen]
  refine AW.while (σ := Nat) (fun k => ft.length - k) (fun k => [(0, .pointer (some ⟨new G, 0, none⟩)), (3, .pointer (some ⟨new n, 0, none⟩)), (5, .pointer (some ⟨new (n + 2), 0, none⟩)), (15, .int .i64 (ft.length : Int)), (16, .int .i64 (k : Int))])
    (fun k n4 H4 => n + 3 ≤ n4 ∧ k ≤ ft.length ∧ BhI w0 H H4 n sv ov (bhM ft sb k)) 0 ?_ ?_ ?_
  · simp (disch := omega) [-hset_if, -Bool.decide_and, hset_ne]
  · exact ⟨by omega, by omega, hI⟩
  clear hI hg1
  rintro k n4 H4 ⟨g0, g1, g2⟩
  have hg4 : H4 G = .cells [.map (some (new M)), fv, gv] 62 1 := by rw [g2.fr G hGn]; exact hg
  simp (disch := omega) [-hset_if, -Bool.decide_and, hset_ne]
  refine cif_dec (fun c1 => ?_) (fun c1 => ?_)
  · simp (disch := omega) [-hset_if, -Bool.decide_and, hset_ne, hg4, hlen]
    refine AW.while (σ := Nat) (fun j => ft.length - j) (fun j => [(0, .pointer (some ⟨new G, 0, none⟩)), (3, .pointer (some ⟨new n, 0, none⟩)), (5, .pointer (some ⟨new (n + 2), 0, none⟩)), (15, .int .i64 (ft.length : Int)), (16, .int .i64 (k : Int)), (21, gv), (22, .int .i64 (ft.length : Int)), (23, .int .i64 (j : Int))])
      (fun j n5 H5 => n + 3 ≤ n5 ∧ j ≤ ft.length ∧ BhI w0 H H5 n sv ov (bhK ft sb (bhM ft sb k) j)) 0 ?_ ?_ ?_
    · simp (disch := omega) [-hset_if, -Bool.decide_and, hset_ne]
    · exact ⟨by omega, by omega, g2⟩
    clear g2 hg4
    rintro j n5 H5 ⟨l0, l1, l2⟩
    have hg5 : H5 G = .cells [.map (some (new M)), fv, gv] 62 1 := by rw [l2.fr G hGn]; exact hg
    have r15 := r1.frame (H' := H5) (fun i hi => l2.fr i (hD i hi))
    have hbs := l2.bs
    have hbv := l2.bv
    simp (disch := omega) [-hset_if, -Bool.decide_and, hset_ne]
    refine cif_dec (fun c2 => ?_) (fun c2 => ?_)
    · have hjr : j < rs.length := by omega
      have hjf : at_ ft (j : Int) = (at_ rs (j : Int)).2 := by rw [← hrs]; exact at_map hjr
      have r2j := (r2 _ (at_mem hjr)).frame (H' := H5) (fun i hi => l2.fr i (hD i hi))
      have hrg := hfo.rng j (by omega)
      have hln := hfo.len j (by omega)
      have hol : (bhK ft sb (bhM ft sb k) j).length = ft.length := by rw [bhK_len, bhM_len, hsl]
      have hst : bhK ft sb (bhM ft sb k) (j + 1) = bh1 ft sb (bhK ft sb (bhM ft sb k) j) j := rfl
      generalize bhK ft sb (bhM ft sb k) j = ob at *
      unfold bh1 at hst
      rw [hjf] at hrg hln hst
      simp (disch := omega) [-hset_if, -Bool.decide_and, hset_ne, r15.ix elemS30, r15.load0 shp35]
      cases hb : at_ ob (j : Int) with
      | true =>
        rw [hb, Bool.true_or] at hst
        refine AW.draw (X := ⟨_, 43, _, _⟩) (id := 7) mixed (.take 0 <| .take 1 <| .take 2 <| .take 3 <| .take 4 <| .take 5 <| .take 6 <| .take 7 <| .take 8 <| .each 9 [0, 1] (.take 10 <| .take 11 <| .each 12 [] (.done) <| .stop) <| .stop) (by kernel_rfl) ?_
        simp (disch := omega) [-hset_if, -Bool.decide_and, hset_ne, hbv, l2.ow.sl.ix elemS64, l2.ow.sl.load0 shp4, hb]
        refine l2.ow.store0 shp4 (by omega) (by omega) true (by simp) (by simp) (by simp) ?_
        intro H6 f1 f2
        rw [Int.toNat_natCast, ← hst] at f2
        simp (disch := omega) [-hset_if, -Bool.decide_and, hset_ne]
        exact Next.mk (j + 1) (by first | omega | (dsimp only; omega)) (by simp (disch := omega) [-hset_if, -Bool.decide_and, hset_ne]) ⟨by omega, by omega, ⟨by rw [f1 _ (by omega)]; exact hbs, by rw [f1 _ (by omega)]; exact hbv, f2, fun i hi => by rw [f1 i (by omega), l2.fr i hi]⟩⟩
      | false =>
        rw [hb, Bool.false_or] at hst
        refine AW.draw (X := ⟨_, 43, _, _⟩) (id := 7) mixed (.take 0 <| .take 1 <| .take 2 <| .take 3 <| .take 4 <| .take 5 <| .take 6 <| .take 7 <| .take 8 <| .each 9 [0, 1] (.take 10 <| .take 11 <| .each 12 [] (.done) <| .stop) <| .stop) (by kernel_rfl) ?_
        simp (disch := omega) [-hset_if, -Bool.decide_and, hset_ne, hbv, l2.ow.sl.ix elemS64, l2.ow.sl.load0 shp4, hb]
        refine containsInt_ok (p := fun x => at_ sb x || at_ ob x) (xs := (at_ rs (j : Int)).2) (D := D) r2j (fun i hi => by have := hD i hi; omega) (fun r hr1 n' H' K' e1 e2 e3 => ?_) (by omega) hent ?_
        · refine bh_ok (sb := sb) (ob := ob) (D := E) (E := (· = n + 1)) (by rw [e2 _ (by omega)]; exact hbs) (by rw [e2 _ (by omega)]; exact hbv) (by omega) (by omega) (hs.frame (fun i hi => by have := hE i hi; rw [e2 i (by omega), l2.fr i (by omega)])) (l2.ow.sl.frame (fun i hi => e2 i (by omega))) (hrg r hr1).1 (by have := (hrg r hr1).2; omega) (by have := (hrg r hr1).2; omega) (e3 _ _ (by omega) (fun _ _ => rfl))
        · intro n6 H6 e1 e2
          have hbs6 : H6 n = .cells [sv] 64 1 := by rw [e2 _ (by omega)]; exact hbs
          have hbv6 : H6 (n + 2) = .cells [ov] 64 1 := by rw [e2 _ (by omega)]; exact hbv
          have ow6 := l2.ow.frame (m := n + 3) (H' := H6) (Nat.le_refl _) (fun i hi => e2 i (by omega))
          simp (disch := omega) [-hset_if, -Bool.decide_and, hset_ne, hbv6, ow6.sl.ix elemS64, ow6.sl.load0 shp4, hb]
          refine ow6.store0 shp4 (by omega) (by omega) ((at_ rs (j : Int)).2.any fun x => at_ sb x || at_ ob x) (by simp) (by simp) (by simp) ?_
          intro H7 f1 f2
          rw [Int.toNat_natCast, ← hst] at f2
          simp (disch := omega) [-hset_if, -Bool.decide_and, hset_ne]
          exact Next.mk (j + 1) (by first | omega | (dsimp only; omega)) (by simp (disch := omega) [-hset_if, -Bool.decide_and, hset_ne]) ⟨by omega, by omega, ⟨by rw [f1 _ (by omega)]; exact hbs6, by rw [f1 _ (by omega)]; exact hbv6, f2, fun i hi => by rw [f1 i (by omega), e2 i (by omega), l2.fr i hi]⟩⟩
    · have hj : j = ft.length := by omega
      subst hj
      simp (disch := omega) [-hset_if, -Bool.decide_and, hset_ne]
      exact Next.mk (k + 1) (by first | omega | (dsimp only; omega)) (by simp (disch := omega) [-hset_if, -Bool.decide_and, hset_ne]) ⟨by omega, by omega, l2⟩
  · have hk0 : k = ft.length := by omega
    subst hk0
    have hbv := g2.bv
    simp (disch := omega) [-hset_if, -Bool.decide_and, hset_ne, hbv]
    refine Fin_id ?_
    exact hk _ _ _ _ (by omega) g2.fr (fun i hi => by omega) (g2.ow.frame g0 (fun _ _ => rfl))
end Go.Aw.S25
/-
  Chapter 25: Behind.
-/
namespace Go.Aw.S25
open Go.RowKit Go.Proofs Go.Aw.Tab
set_option linter.unusedSimpArgs false
set_option linter.unusedVariables false
set_option maxRecDepth 10000
set_option maxHeartbeats 1000000
set_option pp.deepTerms false
set_option pp.deepTerms.threshold 4
set_option pp.maxSteps 1500
attribute [local simp] Lk.cells Nd.cells Dr.cells Pg.val intC boolC
variable {w0 : World} {n : Nat} {H : Heap} {K : Value → Nat → Heap → Prop} {p : Pg} {D E : Nat → Prop}
/-- The numbers below j that are selected. -/
def selP (f : Nat → Bool) (j : Nat) : List Int := ((List.range j).filter f).map fun (i : Nat) => (i : Int)
theorem selP_next (f : Nat → Bool) (j : Nat) : selP f (j + 1) = selP f j ++ (if f j then [(j : Int)] else []) := by
  unfold selP
  rw [List.range_succ, List.filter_append, List.map_append]
  congr 1
  by_cases h : f j = true <;> simp [h]
theorem selP_len (f : Nat → Bool) (j : Nat) : (selP f j).length ≤ j := by
  unfold selP
  rw [List.length_map]
  exact Nat.le_trans (List.length_filter_le _ _) (by simp)
theorem reps_bool (b : Bool) : ∀ m, reps m [.bool b] = (List.replicate m b).map Value.bool
  | 0 => rfl
  | m + 1 => by rw [reps, reps_bool b m]; rfl
theorem flat_bool (l : List Bool) : l.flatMap boolC = l.map Value.bool := by
  induction l with
  | nil => rfl
  | cons b l ih => rw [List.flatMap_cons, ih]; rfl
theorem single_cells (m i : Nat) : (reps m [.bool false]).set i (.bool true) = (single m i).flatMap boolC := by
  rw [flat_bool, reps_bool, single, List.map_set]
def behindP (ft : List (List Int)) (node : Nat) : List Int := selP (fun i => at_ (bhM ft (single ft.length node) ft.length) (i : Int)) ft.length
structure SelI (w0 : World) (H0 H : Heap) (n n2 : Nat) (v : Value) (E : Nat → Prop) (xs : List Int) : Prop where
  ou : OwR ⟨Try.prog, w0⟩ H n2 E 3 1 intC v xs
  ne : ∀ i, E i → n ≤ i
  fr : ∀ i, i < n → H i = H0 i
  le : n ≤ n2
theorem Behind_ok {x : Int} (hp : PrR H w0 D p) (hD : ∀ i, D i → i < n) (hib : ∀ d ∈ p.nds, d.lks.length ≤ 1000000)
    (hk : checkP p ≠ 0 → ∀ n' H', n ≤ n' → (∀ i, i < n → H' i = H i) → K (.tuple #[.slice none 0 0, .int .i64 (checkP p)]) n' H')
    (hk2 : checkP p = 0 → ¬ (0 ≤ x ∧ x < p.nds.length) → ∀ n' H', n ≤ n' → (∀ i, i < n → H' i = H i) → K (.tuple #[.slice none 0 0, .int .i64 1]) n' H')
    (hk3 : checkP p = 0 → ∀ q : Nat, x = (q : Int) → q < p.nds.length → ∀ n' H' v E, n ≤ n' → (∀ i, i < n → H' i = H i) → (∀ i, E i → n ≤ i) → OwR ⟨Try.prog, w0⟩ H' n' E 3 1 intC v (behindP (feedsP p.nds true) q) → K (.tuple #[v, .int .i64 0]) n' H') :
    ACall ⟨Try.prog, w0⟩ 26 [p.val, .int .i64 x] K n H := by
  refine ACall.run Try.func26 rfl Try.ntmps26 Try.results26 (by simp) fun J0 => ?_
  simp (disch := omega) [-hset_if, -Bool.decide_and, hset_ne]
  try rw [show (Value.agg #[.string p.nm, .int .i64 p.per, p.nv, p.dv]).cells.toList = [.string p.nm, .int .i64 p.per, p.nv, p.dv] from rfl]
  have hbx : hset n (.cells [.string p.nm, .int .i64 p.per, p.nv, p.dv] 25 1) H n = .cells [.string p.nm, .int .i64 p.per, p.nv, p.dv] 25 1 := hset_same _ _ _
  have hfr : ∀ i, i < n → hset n (.cells [.string p.nm, .int .i64 p.per, p.nv, p.dv] 25 1) H i = H i := fun i hi => hset_ne (by omega) _ _
  generalize hset n (.cells [.string p.nm, .int .i64 p.per, p.nv, p.dv] 25 1) H = H1 at *
  have hp1 : PrR H1 w0 D p := hp.frame (fun i hi => hfr i (hD i hi))
  have hnb := hp.nb
  simp (disch := omega) [-hset_if, -Bool.decide_and, hset_ne, hbx]
  refine build_ok hp1 (fun i hi => by have := hD i hi; omega) hib ?_ ?_
  · intro n' H' a1 a2 a3
    have a3b : (checkP p != 0) = true := by simpa using a3
    simp (disch := omega) [-hset_if, -Bool.decide_and, hset_ne, a3b]
    refine Fin_id ?_
    exact hk a3 n' H' (by omega) (fun i hi => by rw [a2 i (by omega), hfr i hi])
  · intro n2 H2 G M fv gv a1 a2 a3 a4
    have hl := check_len a3
    have hft := a4.ft
    rw [links_feeds a3] at hft
    have hGl := a4.lt
    have hfo := feeds_ok p.nds true hl
    have hfl := feeds_len p.nds true
    have hfr2 : ∀ i, i < n → H2 i = H i := fun i hi => by rw [a2 i (by omega), hfr i hi]
    have hbx2 : H2 n = .cells [.string p.nm, .int .i64 p.per, p.nv, p.dv] 25 1 := by rw [a2 n (by omega)]; exact hbx
    by_cases c1 : x < 0
    · simp (disch := omega) [-hset_if, -Bool.decide_and, hset_ne, c1]
      refine Fin_id ?_
      exact hk2 a3 (by omega) n2 H2 (by omega) hfr2
    by_cases c2 : (p.nds.length : Int) ≤ x
    · simp (disch := omega) [-hset_if, -Bool.decide_and, hset_ne, c1, hbx2, hp1.ns.lenK, c2]
      refine Fin_id ?_
      exact hk2 a3 (by omega) n2 H2 (by omega) hfr2
    obtain ⟨q, rfl⟩ := at_drop0 (bs := []) (x := x) (by omega)
    replace hk3 := hk3 a3 q rfl (by omega)
    have hgr2 := a4.gr
    unfold behindP at hk3
    rw [← hfl] at c2
    have hnl : p.nds.length = (feedsP p.nds true).length := hfl.symm
    generalize feedsP p.nds true = ft at *
    have hln : lenK .slice p.nv = some (ft.length : Int) := by rw [← hnl]; exact hp1.ns.lenK
    simp (disch := omega) [-hset_if, -Bool.decide_and, hset_ne, c1, hbx2, hln, c2]
    refine ⟨by omega, ?_⟩
    have f2 : OwR ⟨Try.prog, w0⟩ (hset n2 (.cells ((reps ft.length [.bool false]).set q (.bool true)) 4 1) H2) (n2 + 1) (· = n2) 4 1 boolC (.slice (some ⟨new n2, 0, none⟩) ft.length ft.length) (single ft.length q) :=
      OwR.lit (by omega) (fun _ _ => rfl) (by omega) (hset_same _ _ _) (single_cells _ _) (single_len _ _).symm
    have hf3 : ∀ i, i < n2 → hset n2 (.cells ((reps ft.length [.bool false]).set q (.bool true)) 4 1) H2 i = H2 i := fun i hi => hset_ne (by omega) _ _
    simp (disch := omega) [-hset_if, -Bool.decide_and, hset_ne]
    refine ⟨by omega, ?_, by rw [reps_len]; simp; omega⟩
    intro _
    generalize hset n2 (.cells ((reps ft.length [.bool false]).set q (.bool true)) 4 1) H2 = H4 at *
    generalize Value.slice (some ⟨new n2, 0, none⟩) ft.length ft.length = sv at *
    have hfr4 : ∀ i, i < n2 → H4 i = H2 i := hf3
    refine behind_ok (ft := ft) (sb := single ft.length q) (G := G) (M := M) (fv := fv) (gv := gv) (by rw [hfr4 G (by omega)]; exact hgr2) (by omega) (hft.frame (fun i hi => hfr4 i hi.2)) (fun i hi => by omega) f2.sl (fun i hi => by omega) (by omega) (single_len _ _) hfo ?_
    intro n5 H5 ov E5 b1 b2 b3 b4
    have hol : (bhM ft (single ft.length q) ft.length).length = ft.length := by rw [bhM_len, single_len]
    generalize bhM ft (single ft.length q) ft.length = ob at *
    simp (disch := omega) [-hset_if, -Bool.decide_and, hset_ne, b4.sl.lenK, hol]
    refine AW.while (σ := EV) (fun s => ft.length - s.j) (fun s => [(38, ov), (39, .int .i64 (ft.length : Int)), (9, s.v), (40, .int .i64 (s.j : Int))])
      (fun s n6 H6 => s.j ≤ ft.length ∧ SelI w0 H5 H6 n5 n6 s.v s.E (selP (fun i => at_ ob (i : Int)) s.j)) ⟨0, .slice none 0 0, fun _ => False⟩ ?_ ?_ ?_
    · simp (disch := omega) [-hset_if, -Bool.decide_and, hset_ne]
    · exact ⟨by simp, ⟨OwR.nil (by omega), fun _ h => h.elim, fun _ _ => rfl, by omega⟩⟩
    rintro ⟨k, v, E6⟩ n6 H6 ⟨g1, g2⟩
    dsimp only at g1 g2 ⊢
    have hle := g2.le
    have ho6 : SlR ⟨Try.prog, w0⟩ H6 E5 1 boolC ov ob := b4.sl.frame (fun i hi => g2.fr i (b4.lt i hi))
    have hsn := selP_next (fun i => at_ ob (i : Int)) k
    have hsl := selP_len (fun i => at_ ob (i : Int)) k
    simp (disch := omega) [-hset_if, -Bool.decide_and, hset_ne]
    refine cif_dec (fun c3 => ?_) (fun c3 => ?_)
    · simp (disch := omega) [-hset_if, -Bool.decide_and, hset_ne, ho6.ix elemS64, ho6.load0 shp4]
      refine cif_var (fun c4 => ?_) (fun c4 => ?_)
      · rw [if_pos c4] at hsn
        simp (disch := omega) [-hset_if, -Bool.decide_and, hset_ne]
        refine g2.ou.push elemS35 zero3 (by simp) (k : Int) rfl rfl rfl (by first | omega | (dsimp only; omega)) (by first | omega | (dsimp only; omega)) ?_
        intro v7 n7 H7 E7 q1 q2 q3 q4 q5
        simp (disch := omega) [-hset_if, -Bool.decide_and, hset_ne]
        exact Next.mk ⟨k + 1, v7, E7⟩ (by first | omega | (dsimp only; omega)) (by simp (disch := omega) [-hset_if, -Bool.decide_and, hset_ne]) ⟨(by first | omega | (dsimp only; omega)), ⟨by dsimp only; rw [hsn]; exact q5, fun i hi => by rcases q4 i hi with h | h; exact g2.ne i h; omega, fun i hi => by rw [q3 i (by omega) (fun e => by have := g2.ne i e; omega), g2.fr i hi], by omega⟩⟩
      · rw [if_neg (by rw [c4]; simp), List.append_nil] at hsn
        simp (disch := omega) [-hset_if, -Bool.decide_and, hset_ne]
        exact Next.mk ⟨k + 1, v, E6⟩ (by first | omega | (dsimp only; omega)) (by simp (disch := omega) [-hset_if, -Bool.decide_and, hset_ne]) ⟨(by first | omega | (dsimp only; omega)), ⟨by dsimp only; rw [hsn]; exact g2.ou, g2.ne, g2.fr, g2.le⟩⟩
    · have hk0 : k = ft.length := by omega
      subst hk0
      simp (disch := omega) [-hset_if, -Bool.decide_and, hset_ne]
      refine Fin_id ?_
      exact hk3 _ _ _ _ (by omega) (fun i hi => by rw [g2.fr i (by omega), b2 i (by omega), hfr4 i (by omega), hfr2 i hi]) (fun i hi => by have := g2.ne i hi; omega) g2.ou
end Go.Aw.S25
/-
  Chapter 25: the specification's Behind.
-/
namespace Go.Aw.S25
open Go.RowKit Go.Proofs Go.Aw.Tab
set_option linter.unusedSimpArgs false
set_option linter.unusedVariables false
set_option maxRecDepth 10000
set_option maxHeartbeats 1000000
set_option pp.deepTerms false
set_option pp.deepTerms.threshold 4
set_option pp.maxSteps 1500
attribute [local simp] Lk.cells Nd.cells Dr.cells Pg.val intC boolC
variable {w0 : World} {n : Nat} {H : Heap} {K : Value → Nat → Heap → Prop} {p : Pg} {D E : Nat → Prop}
/-- Node k is found when the nodes below i were looked at. -/
def kinB (l : List Nd) (q : Nat) (ob : List Bool) (k i : Nat) : Bool := at_ ob (k : Int) || (List.range i).any fun j => (decide (j = q) || at_ ob (j : Int)) && takesB l j k true
theorem kinB_next {l : List Nd} {q : Nat} {ob : List Bool} {k i : Nat} : kinB l q ob k (i + 1) = (kinB l q ob k i || ((decide (i = q) || at_ ob (i : Int)) && takesB l i k true)) := by
  unfold kinB
  rw [List.range_succ, List.any_append, Bool.or_assoc]
  simp
theorem kinB_end {l : List Nd} {q : Nat} {ob : List Bool} {k : Nat} (hk : k < l.length) : kinB l q ob k l.length = (at_ ob (k : Int) || (at_ (feedsP l true) (k : Int)).any fun x => at_ (single (feedsP l true).length q) x || at_ ob x) := by
  unfold kinB
  rw [feeds_at hk]
  unfold feedOf feedTo
  rw [List.any_map, List.any_filter]
  congr 1
  rw [Bool.eq_iff_iff, List.any_eq_true, List.any_eq_true]
  constructor
  · rintro ⟨j, hj, h⟩
    refine ⟨j, hj, ?_⟩
    have hj' : j < l.length := by simpa using hj
    simp only [Function.comp]
    rw [single_at (by rw [feeds_len]; exact hj')]
    simp only [Bool.and_eq_true, Bool.or_eq_true, decide_eq_true_iff] at h ⊢
    exact ⟨h.2, by rcases h.1 with h | h; exact .inl h.symm; exact .inr h⟩
  · rintro ⟨j, hj, h⟩
    refine ⟨j, hj, ?_⟩
    have hj' : j < l.length := by simpa using hj
    simp only [Function.comp] at h
    rw [single_at (by rw [feeds_len]; exact hj')] at h
    simp only [Bool.and_eq_true, Bool.or_eq_true, decide_eq_true_iff] at h ⊢
    exact ⟨by rcases h.2 with h | h; exact .inl h.symm; exact .inr h, h.1⟩
/-- What was found so far. -/
structure FnI (w0 : World) (H0 H : Heap) (n n2 : Nat) (v : Value) (E : Nat → Prop) (m : Nat) (f : Nat → Bool) (b : Nat) : Prop where
  ex : ∃ l : List Int, OwR ⟨Try.prog, w0⟩ H n2 E 3 1 intC v l ∧ (∀ q : Nat, q < m → f q = decide ((q : Int) ∈ l)) ∧ l.length ≤ b
  ne : ∀ i, E i → n ≤ i
  fr : ∀ i, i < n → H i = H0 i
  le : n ≤ n2
theorem FnI.cast {H0 H' : Heap} {n2 m b b' : Nat} {v : Value} {f g : Nat → Bool} (h : FnI w0 H0 H' n n2 v E m f b) (hg : ∀ q, q < m → g q = f q) (hb : b ≤ b') : FnI w0 H0 H' n n2 v E m g b' := by
  obtain ⟨l, h1, h2, h3⟩ := h.ex
  exact ⟨⟨l, h1, fun q hq => by rw [hg q hq, h2 q hq], by omega⟩, h.ne, h.fr, h.le⟩
def upd (ob : List Bool) (k : Nat) (b : Bool) (r : Nat) : Bool := if r = k then b else at_ ob (r : Int)
theorem RBehind_ok {q : Nat} (hp : PrR H w0 D p) (hD : ∀ i, D i → i < n) (hl : p.nds.length ≤ 64) (hq : q < p.nds.length)
    (hk : ∀ n' H' v E, n ≤ n' → (∀ i, i < n → H' i = H i) → (∀ i, E i → n ≤ i) → OwR ⟨Try.prog, w0⟩ H' n' E 3 1 intC v (behindP (feedsP p.nds true) q) → K v n' H') :
    ACall ⟨Try.prog, w0⟩ 29 [p.val, .int .i64 (q : Int)] K n H := by
  refine ACall.run Try.func29 rfl Try.ntmps29 Try.results29 (by simp) fun J0 => ?_
  simp (disch := omega) [-hset_if, -Bool.decide_and, hset_ne]
  try rw [show (Value.agg #[.string p.nm, .int .i64 p.per, p.nv, p.dv]).cells.toList = [.string p.nm, .int .i64 p.per, p.nv, p.dv] from rfl]
  have hbx : hset n (.cells [.string p.nm, .int .i64 p.per, p.nv, p.dv] 25 1) H n = .cells [.string p.nm, .int .i64 p.per, p.nv, p.dv] 25 1 := hset_same _ _ _
  have hfr : ∀ i, i < n → hset n (.cells [.string p.nm, .int .i64 p.per, p.nv, p.dv] 25 1) H i = H i := fun i hi => hset_ne (by omega) _ _
  generalize hset n (.cells [.string p.nm, .int .i64 p.per, p.nv, p.dv] 25 1) H = H1 at *
  have hp1 : PrR H1 w0 D p := hp.frame (fun i hi => hfr i (hD i hi))
  have hnb := hp.nb
  have hfl := feeds_len p.nds true
  have hst : ∀ ob : List Bool, ob.length = p.nds.length → ∀ k : Nat, k < p.nds.length → ∀ r : Nat, r < p.nds.length → at_ (bh1 (feedsP p.nds true) (single (feedsP p.nds true).length q) ob k) (r : Int) = upd ob k (kinB p.nds q ob k p.nds.length) r := fun ob ho k hk r hr => by
    unfold upd
    rw [bh1_at (by omega), kinB_end hk]
    by_cases e : r = k
    · subst e; simp
    · have : ¬ k = r := fun h => e h.symm
      simp [e, this]
  unfold behindP at hk
  rw [hfl] at hk hst
  have hbl : ∀ r k, (bhK (feedsP p.nds true) (single p.nds.length q) (bhM (feedsP p.nds true) (single p.nds.length q) r) k).length = p.nds.length := fun r k => by rw [bhK_len, bhM_len, single_len]
  have hbm : ∀ r, bhM (feedsP p.nds true) (single p.nds.length q) (r + 1) = bhK (feedsP p.nds true) (single p.nds.length q) (bhM (feedsP p.nds true) (single p.nds.length q) r) p.nds.length := fun r => by rw [← hfl]; rfl
  have hbk : ∀ ob k, bhK (feedsP p.nds true) (single p.nds.length q) ob (k + 1) = bh1 (feedsP p.nds true) (single p.nds.length q) (bhK (feedsP p.nds true) (single p.nds.length q) ob k) k := fun _ _ => rfl
  have hb0 : bhM (feedsP p.nds true) (single p.nds.length q) 0 = List.replicate p.nds.length false := by unfold bhM; rw [single_len]
  have hk0 : ∀ ob, bhK (feedsP p.nds true) (single p.nds.length q) ob 0 = ob := fun _ => rfl
  generalize feedsP p.nds true = ft at *
  generalize single p.nds.length q = sb at *
  refine AW.while (σ := EV) (fun s => p.nds.length - s.j) (fun s => [(1, .int .i64 (q : Int)), (2, .pointer (some ⟨new n, 0, none⟩)), (5, s.v), (6, .int .i64 (s.j : Int))])
    (fun s n2 H2 => s.j ≤ p.nds.length ∧ FnI w0 H1 H2 (n + 1) n2 s.v s.E p.nds.length (fun r => at_ (bhM ft sb s.j) (r : Int)) (4096 * s.j)) ⟨0, .slice none 0 0, fun _ => False⟩ ?_ ?_ ?_
  · simp (disch := omega) [-hset_if, -Bool.decide_and, hset_ne]
  · refine ⟨by simp, ⟨⟨[], OwR.nil (by omega), fun r hr => ?_, by simp⟩, fun _ h => h.elim, fun _ _ => rfl, by omega⟩⟩
    dsimp only
    rw [hb0, at_nat (by simpa using hr)]
    simp
  rintro ⟨k, v, E2⟩ n2 H2 ⟨g1, g2⟩
  dsimp only at g1 g2 ⊢
  have hb2 : H2 n = .cells [.string p.nm, .int .i64 p.per, p.nv, p.dv] 25 1 := by rw [g2.fr n (by omega)]; exact hbx
  have hp2 : PrR H2 w0 D p := hp1.frame (fun i hi => g2.fr i (by have := hD i hi; omega))
  simp (disch := omega) [-hset_if, -Bool.decide_and, hset_ne, hb2, hp2.ns.lenK]
  refine cif_dec (fun c1 => ?_) (fun c1 => ?_)
  · simp (disch := omega) [-hset_if, -Bool.decide_and, hset_ne]
    refine AW.while (σ := EV) (fun s => p.nds.length - s.j) (fun s => [(1, .int .i64 (q : Int)), (2, .pointer (some ⟨new n, 0, none⟩)), (6, .int .i64 (k : Int)), (5, s.v), (7, .int .i64 (s.j : Int))])
      (fun s n3 H3 => s.j ≤ p.nds.length ∧ FnI w0 H1 H3 (n + 1) n3 s.v s.E p.nds.length (fun r => at_ (bhK ft sb (bhM ft sb k) s.j) (r : Int)) (4096 * k + 64 * s.j)) ⟨0, v, E2⟩ ?_ ?_ ?_
    · simp (disch := omega) [-hset_if, -Bool.decide_and, hset_ne]
    · exact ⟨by simp, by dsimp only; rw [hk0]; exact g2⟩
    clear g2 hb2 hp2
    rintro ⟨i, v3, E3⟩ n3 H3 ⟨l1, l2⟩
    dsimp only at l1 l2 ⊢
    have hb3 : H3 n = .cells [.string p.nm, .int .i64 p.per, p.nv, p.dv] 25 1 := by rw [l2.fr n (by omega)]; exact hbx
    have hp3 : PrR H3 w0 D p := hp1.frame (fun i hi => l2.fr i (by have := hD i hi; omega))
    simp (disch := omega) [-hset_if, -Bool.decide_and, hset_ne, hb3, hp3.ns.lenK]
    refine cif_dec (fun c2 => ?_) (fun c2 => ?_)
    · have hob := hbl k i
      have hnx := hst _ hob i c2
      rw [← hbk] at hnx
      have hbb : ∀ ob : List Bool, ∀ r : Nat, r < p.nds.length → upd ob i (kinB p.nds q ob i 0) r = at_ ob (r : Int) := fun ob r hr => by
        unfold upd kinB
        by_cases e : r = i
        · subst e; simp
        · rw [if_neg e]
      generalize bhK ft sb (bhM ft sb k) i = ob at *
      simp (disch := omega) [-hset_if, -Bool.decide_and, hset_ne]
      refine AW.while (σ := EV) (fun s => p.nds.length - s.j) (fun s => [(1, .int .i64 (q : Int)), (2, .pointer (some ⟨new n, 0, none⟩)), (6, .int .i64 (k : Int)), (7, .int .i64 (i : Int)), (5, s.v), (8, .int .i64 (s.j : Int))])
        (fun s n4 H4 => s.j ≤ p.nds.length ∧ FnI w0 H1 H4 (n + 1) n4 s.v s.E p.nds.length (upd ob i (kinB p.nds q ob i s.j)) (4096 * k + 64 * i + s.j)) ⟨0, v3, E3⟩ ?_ ?_ ?_
      · simp (disch := omega) [-hset_if, -Bool.decide_and, hset_ne]
      · exact ⟨by simp, l2.cast (hbb ob) (by omega)⟩
      clear l2 hb3 hp3 hbb
      rintro ⟨j, v4, E4⟩ n4 H4 ⟨m1, m2⟩
      dsimp only at m1 m2 ⊢
      have hb4 : H4 n = .cells [.string p.nm, .int .i64 p.per, p.nv, p.dv] 25 1 := by rw [m2.fr n (by omega)]; exact hbx
      have hp4 : PrR H4 w0 D p := hp1.frame (fun i hi => m2.fr i (by have := hD i hi; omega))
      have hD4 : ∀ i, D i → i < n4 := fun i hi => by have := hD i hi; have := m2.le; omega
      obtain ⟨l, o1, o2, o3⟩ := m2.ex
      have hkn := kinB_next (l := p.nds) (q := q) (ob := ob) (k := i) (i := j)
      simp (disch := omega) [-hset_if, -Bool.decide_and, hset_ne, hb4, hp4.ns.lenK]
      refine cif_dec (fun c3 => ?_) (fun c3 => ?_)
      · have hmk := o2 i (by omega)
        have hmj := o2 j c3
        have hui : upd ob i (kinB p.nds q ob i j) i = kinB p.nds q ob i j := by unfold upd; rw [if_pos rfl]
        rw [hui] at hmk
        have hskip : kinB p.nds q ob i (j + 1) = kinB p.nds q ob i j → FnI w0 H1 H4 (n + 1) n4 v4 E4 p.nds.length (upd ob i (kinB p.nds q ob i (j + 1))) (4096 * k + 64 * i + (j + 1)) := fun e => by rw [e]; exact m2.cast (fun _ _ => rfl) (by omega)
        have hin : kinB p.nds q ob i j = true → kinB p.nds q ob i (j + 1) = true := fun e => by rw [hkn, e]; rfl
        have hcj : (j = q ∨ (j : Int) ∈ l) → kinB p.nds q ob i j = false → (decide (j = q) || at_ ob (j : Int)) = true := fun h e => by
          rcases h with h | h
          · simp [h]
          · rw [decide_eq_true h] at hmj
            unfold upd at hmj
            by_cases e2 : j = i
            · rw [if_pos e2, e] at hmj; cases hmj
            · rw [if_neg e2] at hmj; rw [hmj, Bool.or_true]
        have hcn : ¬ (j = q ∨ (j : Int) ∈ l) → (decide (j = q) || at_ ob (j : Int)) = false ∨ kinB p.nds q ob i j = true := fun h => by
          have h1 : ¬ j = q := fun e => h (.inl e)
          have h2 : ¬ (j : Int) ∈ l := fun e => h (.inr e)
          rw [decide_eq_false h2] at hmj
          unfold upd at hmj
          by_cases e2 : j = i
          · rw [if_pos e2] at hmj
            left
            have : at_ ob (j : Int) = false := by
              unfold kinB at hmj
              rw [e2]
              exact (Bool.or_eq_false_iff.1 hmj).1
            rw [this, decide_eq_false h1]; rfl
          · rw [if_neg e2] at hmj; left; rw [hmj, decide_eq_false h1]; rfl
        have hno : ¬ (j = q ∨ (j : Int) ∈ l) ∨ takesB p.nds j i true = false ∨ (i : Int) ∈ l → kinB p.nds q ob i (j + 1) = kinB p.nds q ob i j := fun h => by
          rcases h with h | h | h
          · rcases hcn h with e | e
            · rw [hkn, e]; simp
            · rw [hin e, e]
          · rw [hkn, h]; simp
          · rw [decide_eq_true h] at hmk
            rw [hin hmk, hmk]
        have hjq : ((j : Int) = (q : Int)) ↔ j = q := by omega
        by_cases d1 : j = q ∨ (j : Int) ∈ l
        rotate_left
        · have hs1 := hskip (hno (.inl d1))
          have d2 : ¬ j = q := fun e => d1 (.inl e)
          have d3 : ¬ (j : Int) ∈ l := fun e => d1 (.inr e)
          have d4 : ((j : Int) == (q : Int)) = false := by rw [beq_eq_false_iff_ne]; omega
          simp (disch := omega) [-hset_if, -Bool.decide_and, hset_ne, d4]
          refine has_ok (l := l) (x := (j : Int)) o1.sl (by omega) ?_
          simp (disch := omega) [-hset_if, -Bool.decide_and, hset_ne, d3]
          exact Next.mk ⟨j + 1, v4, E4⟩ (by first | omega | (dsimp only; omega)) (by simp (disch := omega) [-hset_if, -Bool.decide_and, hset_ne]) ⟨(by first | omega | (dsimp only; omega)), hs1.cast (fun _ _ => rfl) (by first | omega | (dsimp only; omega))⟩
        cases d5 : takesB p.nds j i true with
        | false =>
          have hs1 := hskip (hno (.inr (.inl d5)))
          by_cases d2 : j = q
          · have d4 : ((j : Int) == (q : Int)) = true := by rw [beq_iff_eq]; omega
            simp (disch := omega) [-hset_if, -Bool.decide_and, hset_ne, d4, hb4]
            refine takes_ok hp4 hD4 c3 c2 ?_
            simp (disch := omega) [-hset_if, -Bool.decide_and, hset_ne, d5]
            exact Next.mk ⟨j + 1, v4, E4⟩ (by first | omega | (dsimp only; omega)) (by simp (disch := omega) [-hset_if, -Bool.decide_and, hset_ne]) ⟨(by first | omega | (dsimp only; omega)), hs1.cast (fun _ _ => rfl) (by first | omega | (dsimp only; omega))⟩
          · have d4 : ((j : Int) == (q : Int)) = false := by rw [beq_eq_false_iff_ne]; omega
            simp (disch := omega) [-hset_if, -Bool.decide_and, hset_ne, d4]
            refine has_ok (l := l) (x := (j : Int)) o1.sl (by omega) ?_
            simp (disch := omega) [-hset_if, -Bool.decide_and, hset_ne, show (j : Int) ∈ l by rcases d1 with h | h; exact absurd h d2; exact h, hb4]
            refine takes_ok hp4 hD4 c3 c2 ?_
            simp (disch := omega) [-hset_if, -Bool.decide_and, hset_ne, d5]
            exact Next.mk ⟨j + 1, v4, E4⟩ (by first | omega | (dsimp only; omega)) (by simp (disch := omega) [-hset_if, -Bool.decide_and, hset_ne]) ⟨(by first | omega | (dsimp only; omega)), hs1.cast (fun _ _ => rfl) (by first | omega | (dsimp only; omega))⟩
        | true =>
        have hgo : ∀ Q : Prop, (takesB p.nds j i true = true → Q) → Q := fun Q h => h d5
        by_cases d6 : (i : Int) ∈ l
        · have hs1 := hskip (hno (.inr (.inr d6)))
          by_cases d2 : j = q
          · have d4 : ((j : Int) == (q : Int)) = true := by rw [beq_iff_eq]; omega
            simp (disch := omega) [-hset_if, -Bool.decide_and, hset_ne, d4, hb4]
            refine takes_ok hp4 hD4 c3 c2 ?_
            simp (disch := omega) [-hset_if, -Bool.decide_and, hset_ne, d5]
            refine has_ok (l := l) (x := (i : Int)) o1.sl (by omega) ?_
            simp (disch := omega) [-hset_if, -Bool.decide_and, hset_ne, d6]
            exact Next.mk ⟨j + 1, v4, E4⟩ (by first | omega | (dsimp only; omega)) (by simp (disch := omega) [-hset_if, -Bool.decide_and, hset_ne]) ⟨(by first | omega | (dsimp only; omega)), hs1.cast (fun _ _ => rfl) (by first | omega | (dsimp only; omega))⟩
          · have d4 : ((j : Int) == (q : Int)) = false := by rw [beq_eq_false_iff_ne]; omega
            simp (disch := omega) [-hset_if, -Bool.decide_and, hset_ne, d4]
            refine has_ok (l := l) (x := (j : Int)) o1.sl (by omega) ?_
            simp (disch := omega) [-hset_if, -Bool.decide_and, hset_ne, show (j : Int) ∈ l by rcases d1 with h | h; exact absurd h d2; exact h, hb4]
            refine takes_ok hp4 hD4 c3 c2 ?_
            simp (disch := omega) [-hset_if, -Bool.decide_and, hset_ne, d5]
            refine has_ok (l := l) (x := (i : Int)) o1.sl (by omega) ?_
            simp (disch := omega) [-hset_if, -Bool.decide_and, hset_ne, d6]
            exact Next.mk ⟨j + 1, v4, E4⟩ (by first | omega | (dsimp only; omega)) (by simp (disch := omega) [-hset_if, -Bool.decide_and, hset_ne]) ⟨(by first | omega | (dsimp only; omega)), hs1.cast (fun _ _ => rfl) (by first | omega | (dsimp only; omega))⟩
        rw [decide_eq_false d6] at hmk
        have hyes : kinB p.nds q ob i (j + 1) = true := by rw [hkn, hcj d1 hmk, d5]; simp
        have hfin : ∀ v5 n5 H5 E5, n4 + 1 ≤ n5 → n5 ≤ n4 + 2 → (∀ i, i < n4 → ¬ E4 i → H5 i = H4 i) → (∀ i, E5 i → E4 i ∨ n4 < i) → OwR ⟨Try.prog, w0⟩ H5 n5 E5 3 1 intC v5 (l ++ [(i : Int)]) → FnI w0 H1 H5 (n + 1) n5 v5 E5 p.nds.length (upd ob i (kinB p.nds q ob i (j + 1))) (4096 * k + 64 * i + (j + 1)) := fun v5 n5 H5 E5 q1 q2 q3 q4 q5 => by
          have hle := m2.le
          refine ⟨⟨_, q5, fun r hr => ?_, by simp; omega⟩, fun x hx => ?_, fun x hx => ?_, by omega⟩
          · rw [hyes]
            have := o2 r hr
            unfold upd at this ⊢
            by_cases e : r = i
            · subst e; simp
            · rw [if_neg e] at this ⊢
              have h : ¬ ((r : Int) = (i : Int)) := by omega
              rw [this]; simp [h]
          · rcases q4 x hx with h | h
            · exact m2.ne x h
            · omega
          · rw [q3 x (by omega) (fun e => by have := m2.ne x e; omega)]; exact m2.fr x hx
        by_cases d2 : j = q
        · have d4 : ((j : Int) == (q : Int)) = true := by rw [beq_iff_eq]; omega
          simp (disch := omega) [-hset_if, -Bool.decide_and, hset_ne, d4, hb4]
          refine takes_ok hp4 hD4 c3 c2 ?_
          simp (disch := omega) [-hset_if, -Bool.decide_and, hset_ne, d5]
          refine has_ok (l := l) (x := (i : Int)) o1.sl (by omega) ?_
          simp (disch := omega) [-hset_if, -Bool.decide_and, hset_ne, d6]
          refine o1.push elemS35 zero3 (by simp) (i : Int) rfl rfl rfl (by first | omega | (dsimp only; omega)) (by first | omega | (dsimp only; omega)) ?_
          intro v5 n5 H5 E5 q1 q2 q3 q4 q5
          simp (disch := omega) [-hset_if, -Bool.decide_and, hset_ne]
          exact Next.mk ⟨j + 1, v5, E5⟩ (by first | omega | (dsimp only; omega)) (by simp (disch := omega) [-hset_if, -Bool.decide_and, hset_ne]) ⟨(by first | omega | (dsimp only; omega)), (hfin _ _ _ _ q1 q2 q3 q4 q5).cast (fun _ _ => rfl) (by first | omega | (dsimp only; omega))⟩
        · have d4 : ((j : Int) == (q : Int)) = false := by rw [beq_eq_false_iff_ne]; omega
          simp (disch := omega) [-hset_if, -Bool.decide_and, hset_ne, d4]
          refine has_ok (l := l) (x := (j : Int)) o1.sl (by omega) ?_
          simp (disch := omega) [-hset_if, -Bool.decide_and, hset_ne, show (j : Int) ∈ l by rcases d1 with h | h; exact absurd h d2; exact h, hb4]
          refine takes_ok hp4 hD4 c3 c2 ?_
          simp (disch := omega) [-hset_if, -Bool.decide_and, hset_ne, d5]
          refine has_ok (l := l) (x := (i : Int)) o1.sl (by omega) ?_
          simp (disch := omega) [-hset_if, -Bool.decide_and, hset_ne, d6]
          refine o1.push elemS35 zero3 (by simp) (i : Int) rfl rfl rfl (by first | omega | (dsimp only; omega)) (by first | omega | (dsimp only; omega)) ?_
          intro v5 n5 H5 E5 q1 q2 q3 q4 q5
          simp (disch := omega) [-hset_if, -Bool.decide_and, hset_ne]
          exact Next.mk ⟨j + 1, v5, E5⟩ (by first | omega | (dsimp only; omega)) (by simp (disch := omega) [-hset_if, -Bool.decide_and, hset_ne]) ⟨(by first | omega | (dsimp only; omega)), (hfin _ _ _ _ q1 q2 q3 q4 q5).cast (fun _ _ => rfl) (by first | omega | (dsimp only; omega))⟩
      · have hj : j = p.nds.length := by omega
        subst hj
        simp (disch := omega) [-hset_if, -Bool.decide_and, hset_ne]
        exact Next.mk ⟨i + 1, v4, E4⟩ (by first | omega | (dsimp only; omega)) (by simp (disch := omega) [-hset_if, -Bool.decide_and, hset_ne]) ⟨(by first | omega | (dsimp only; omega)), m2.cast (fun r hr => hnx r hr) (by first | omega | (dsimp only; omega))⟩
    · have hi : i = p.nds.length := by omega
      subst hi
      rw [← hbm] at l2
      simp (disch := omega) [-hset_if, -Bool.decide_and, hset_ne]
      exact Next.mk ⟨k + 1, v3, E3⟩ (by first | omega | (dsimp only; omega)) (by simp (disch := omega) [-hset_if, -Bool.decide_and, hset_ne]) ⟨(by first | omega | (dsimp only; omega)), l2.cast (fun r hr => rfl) (by first | omega | (dsimp only; omega))⟩
  · have hkk : k = p.nds.length := by omega
    subst hkk
    obtain ⟨l, o1, o2, o3⟩ := g2.ex
    have hle2 := g2.le
    simp (disch := omega) [-hset_if, -Bool.decide_and, hset_ne]
    refine AW.while (σ := EV) (fun s => p.nds.length - s.j) (fun s => [(2, .pointer (some ⟨new n, 0, none⟩)), (5, v), (9, s.v), (10, .int .i64 (s.j : Int))])
      (fun s n6 H6 => s.j ≤ p.nds.length ∧ SelI w0 H2 H6 n2 n6 s.v s.E (selP (fun i => at_ (bhM ft sb p.nds.length) (i : Int)) s.j)) ⟨0, .slice none 0 0, fun _ => False⟩ ?_ ?_ ?_
    · simp (disch := omega) [-hset_if, -Bool.decide_and, hset_ne]
    · exact ⟨by simp, ⟨OwR.nil (by omega), fun _ h => h.elim, fun _ _ => rfl, by omega⟩⟩
    rintro ⟨k, v6, E6⟩ n6 H6 ⟨l1, l2⟩
    dsimp only at l1 l2 ⊢
    have hle := l2.le
    have hb6 : H6 n = .cells [.string p.nm, .int .i64 p.per, p.nv, p.dv] 25 1 := by rw [l2.fr n (by omega)]; exact hb2
    have hp6 : PrR H6 w0 D p := hp2.frame (fun i hi => l2.fr i (by have := hD i hi; omega))
    have o6 := o1.frame (m := n6) (H' := H6) hle (fun i hi => l2.fr i (o1.lt i hi))
    have hsn := selP_next (fun i => at_ (bhM ft sb p.nds.length) (i : Int)) k
    have hsl := selP_len (fun i => at_ (bhM ft sb p.nds.length) (i : Int)) k
    simp (disch := omega) [-hset_if, -Bool.decide_and, hset_ne, hb6, hp6.ns.lenK]
    refine cif_dec (fun c3 => ?_) (fun c3 => ?_)
    · have hmk := o2 k c3
      try dsimp only at hmk
      try dsimp only at hsn
      simp (disch := omega) [-hset_if, -Bool.decide_and, hset_ne]
      refine has_ok (l := l) (x := (k : Int)) o6.sl (by omega) ?_
      by_cases c4 : (k : Int) ∈ l
      · rw [decide_eq_true c4] at hmk
        rw [if_pos hmk] at hsn
        simp (disch := omega) [-hset_if, -Bool.decide_and, hset_ne, c4]
        refine l2.ou.push elemS35 zero3 (by simp) (k : Int) rfl rfl rfl (by first | omega | (dsimp only; omega)) (by first | omega | (dsimp only; omega)) ?_
        intro v7 n7 H7 E7 q1 q2 q3 q4 q5
        simp (disch := omega) [-hset_if, -Bool.decide_and, hset_ne]
        exact Next.mk ⟨k + 1, v7, E7⟩ (by first | omega | (dsimp only; omega)) (by simp (disch := omega) [-hset_if, -Bool.decide_and, hset_ne]) ⟨(by first | omega | (dsimp only; omega)), ⟨by dsimp only; rw [hsn]; exact q5, fun i hi => by rcases q4 i hi with h | h; exact l2.ne i h; omega, fun i hi => by rw [q3 i (by omega) (fun e => by have := l2.ne i e; omega), l2.fr i hi], by omega⟩⟩
      · rw [decide_eq_false c4] at hmk
        rw [if_neg (by rw [hmk]; simp), List.append_nil] at hsn
        simp (disch := omega) [-hset_if, -Bool.decide_and, hset_ne, c4]
        exact Next.mk ⟨k + 1, v6, E6⟩ (by first | omega | (dsimp only; omega)) (by simp (disch := omega) [-hset_if, -Bool.decide_and, hset_ne]) ⟨(by first | omega | (dsimp only; omega)), ⟨by dsimp only; rw [hsn]; exact l2.ou, l2.ne, l2.fr, l2.le⟩⟩
    · have hk1 : k = p.nds.length := by omega
      subst hk1
      simp (disch := omega) [-hset_if, -Bool.decide_and, hset_ne]
      refine Fin_id ?_
      exact hk _ _ _ _ (by omega) (fun i hi => by rw [l2.fr i (by omega), g2.fr i (by omega), hfr i hi]) (fun i hi => by have := l2.ne i hi; omega) l2.ou
end Go.Aw.S25
/-
  Chapter 25: a node is visited.
-/
namespace Go.Aw.S25
open Go.RowKit Go.Proofs Go.Aw.Tab
set_option linter.unusedSimpArgs false
set_option linter.unusedVariables false
set_option maxRecDepth 10000
set_option maxHeartbeats 1000000
set_option pp.deepTerms false
set_option pp.deepTerms.threshold 4
set_option pp.maxSteps 1500
attribute [local simp] Lk.cells Nd.cells Dr.cells Pg.val intC boolC
variable {w0 : World} {n : Nat} {H : Heap} {K : Value → Nat → Heap → Prop} {p : Pg} {D E : Nat → Prop}
/-- What is used, and the queue, in memory: used at m, the variables at m + 1 and m + 2. -/
structure VsR (w0 : World) (H0 H : Heap) (m n2 : Nat) (uv qv : Value) (E : Nat → Prop) (st : List Bool × List Int) : Prop where
  bv : H (m + 1) = .cells [uv] 64 1
  bq : H (m + 2) = .cells [qv] 35 1
  ou : OwR ⟨Try.prog, w0⟩ H n2 (· = m) 4 1 boolC uv st.1
  oq : OwR ⟨Try.prog, w0⟩ H n2 E 3 1 intC qv st.2
  ne : ∀ i, E i → m + 3 ≤ i
  fr : ∀ i, i < m → H i = H0 i
  le : m + 3 ≤ n2
theorem VsR.al {H0 H H' : Heap} {m n2 n3 : Nat} {uv qv : Value} {st : List Bool × List Int} (h : VsR w0 H0 H m n2 uv qv E st) (h1 : n2 ≤ n3) (h2 : ∀ i, i < n2 → H' i = H i) : VsR w0 H0 H' m n3 uv qv E st := by
  have hle := h.le
  exact ⟨by rw [h2 _ (by omega)]; exact h.bv, by rw [h2 _ (by omega)]; exact h.bq, h.ou.frame h1 (fun i hi => h2 i (by omega)), h.oq.frame h1 (fun i hi => h2 i (h.oq.lt i hi)), h.ne, fun i hi => by rw [h2 i (by omega), h.fr i hi], by omega⟩
theorem vis1_len (st : List Bool × List Int) (x : Int) : (vis1 st x).1.length = st.1.length ∧ (vis1 st x).2.length ≤ st.2.length + 1 := by
  unfold vis1
  split
  · omega
  · simp
theorem visK_len (st : List Bool × List Int) (l : List Int) : ∀ k, (visK st l k).1.length = st.1.length ∧ (visK st l k).2.length ≤ st.2.length + k
  | 0 => by simp [visK]
  | k + 1 => by
    have ih := visK_len st l k
    have := vis1_len (visK st l k) (at_ l (k : Int))
    unfold visK
    omega
structure VkI (w0 : World) (H0 H H1 : Heap) (m n n2 : Nat) (uv qv : Value) (E2 E : Nat → Prop) (st : List Bool × List Int) : Prop where
  vs : VsR w0 H0 H1 m n2 uv qv E st
  gr : ∀ i, E i → E2 i ∨ n ≤ i
  fr : ∀ i, i < n → ¬ E2 i → i ≠ m → i ≠ m + 2 → H1 i = H i
  le : n ≤ n2
theorem visit_ok {H0 : Heap} {m : Nat} {uv qv lv : Value} {E2 Dl : Nat → Prop} {st : List Bool × List Int} {l : List Int} (h : VsR w0 H0 H m n uv qv E2 st) (hl : SlR ⟨Try.prog, w0⟩ H Dl 1 intC lv l) (hDl : ∀ i, Dl i → i < n ∧ ¬ E2 i ∧ i ≠ m ∧ i ≠ m + 2) (hlen : l.length ≤ 1000000)
    (hrg : ∀ x ∈ l, 0 ≤ x ∧ x < st.1.length) (hq : st.2.length ≤ 2000000)
    (hk : ∀ n' H' qv' E', n ≤ n' → VkI w0 H0 H H' m n n' uv qv' E2 E' (visK st l l.length) → K (.tuple #[]) n' H') : ACall ⟨Try.prog, w0⟩ 43 [lv, .pointer (some ⟨new (m + 1), 0, none⟩), .pointer (some ⟨new (m + 2), 0, none⟩)] K n H := by
  refine ACall.run Try.func43 rfl Try.ntmps43 Try.results43 (by simp) fun J0 => ?_
  simp (disch := omega) [-hset_if, -Bool.decide_and, hset_ne, hl.lenK]
  refine AW.while (σ := EV) (fun s => l.length - s.j) (fun s => [(1, .pointer (some ⟨new (m + 1), 0, none⟩)), (2, .pointer (some ⟨new (m + 2), 0, none⟩)), (6, lv), (7, .int .i64 (l.length : Int)), (8, .int .i64 (s.j : Int))])
    (fun s n2 H2 => s.j ≤ l.length ∧ VkI w0 H0 H H2 m n n2 uv s.v E2 s.E (visK st l s.j)) ⟨0, qv, E2⟩ ?_ ?_ ?_
  · simp (disch := omega) [-hset_if, -Bool.decide_and, hset_ne]
  · exact ⟨by simp, ⟨h, fun _ h => .inl h, fun _ _ _ _ _ => rfl, by omega⟩⟩
  rintro ⟨k, v, E⟩ n2 H2 ⟨g1, ⟨g2, g3, g4, g5⟩⟩
  dsimp only at g1 g2 g3 g4 ⊢
  have hl2 : SlR ⟨Try.prog, w0⟩ H2 Dl 1 intC lv l := hl.frame (fun i hi => by have := hDl i hi; exact g4 i this.1 this.2.1 this.2.2.1 this.2.2.2)
  have hbv := g2.bv
  have hbq := g2.bq
  have hvl := visK_len st l k
  have hle := g2.le
  simp (disch := omega) [-hset_if, -Bool.decide_and, hset_ne]
  refine cif_dec (fun c1 => ?_) (fun c1 => ?_)
  · have hkl : k < l.length := by omega
    have hx := hrg _ (at_mem (l := l) (j := k) hkl)
    have hst : visK st l (k + 1) = vis1 (visK st l k) (at_ l (k : Int)) := rfl
    obtain ⟨x, hxe⟩ : ∃ x, at_ l (k : Int) = x := ⟨_, rfl⟩
    rw [hxe] at hx hst
    generalize visK st l k = sk at *
    obtain ⟨q, rfl⟩ := at_drop0 (bs := []) hx.1
    unfold vis1 at hst
    cases hb : at_ sk.1 (q : Int) with
    | true =>
      rw [if_pos hb] at hst
      simp (disch := omega) [-hset_if, -Bool.decide_and, hset_ne, hl2.ix elemS35, hl2.load0 shp3, hxe, hbv, g2.ou.sl.ix elemS64, g2.ou.sl.load0 shp4, hb]
      exact Next.mk ⟨k + 1, v, E⟩ (by first | omega | (dsimp only; omega)) (by simp (disch := omega) [-hset_if, -Bool.decide_and, hset_ne]) ⟨(by first | omega | (dsimp only; omega)), ⟨by dsimp only; rw [hst]; exact g2, g3, g4, g5⟩⟩
    | false =>
      rw [if_neg (by rw [hb]; simp), Int.toNat_natCast] at hst
      simp (disch := omega) [-hset_if, -Bool.decide_and, hset_ne, hl2.ix elemS35, hl2.load0 shp3, hxe, hbv, g2.ou.sl.ix elemS64, g2.ou.sl.load0 shp4, hb]
      refine g2.ou.store0 shp4 (by omega) (by omega) true (by simp) (by simp) (by simp) ?_
      intro H3 f1 f2
      rw [Int.toNat_natCast] at f2
      have hbv3 : H3 (m + 1) = .cells [uv] 64 1 := by rw [f1 _ (by omega)]; exact hbv
      have hbq3 : H3 (m + 2) = .cells [v] 35 1 := by rw [f1 _ (by omega)]; exact hbq
      have oq3 := g2.oq.frame (m := n2) (H' := H3) (Nat.le_refl _) (fun i hi => f1 i (by have := g2.ne i hi; omega))
      simp (disch := omega) [-hset_if, -Bool.decide_and, hset_ne, hbq3]
      refine oq3.push elemS35 zero3 (by simp) (q : Int) rfl rfl rfl (by first | omega | (dsimp only; omega)) (by first | omega | (dsimp only; omega)) ?_
      intro v4 n4 H4 E4 q1 q2 q3 q4 q5
      have hbq4 : H4 (m + 2) = .cells [v] 35 1 := by rw [q3 _ (by omega) (fun e => by have := g2.ne _ e; omega)]; exact hbq3
      have hE4 : ∀ i, E4 i → m + 3 ≤ i := fun i hi => by rcases q4 i hi with h | h; exact g2.ne i h; omega
      simp (disch := omega) [-hset_if, -Bool.decide_and, hset_ne, hbq4, q5.sl.cells, q5.sl.one]
      refine Next.mk ⟨k + 1, v4, E4⟩ (by first | omega | (dsimp only; omega)) (by simp (disch := omega) [-hset_if, -Bool.decide_and, hset_ne]) ⟨(by first | omega | (dsimp only; omega)), ⟨⟨?_, hset_same _ _ _, ?_, ?_, hE4, fun i hi => ?_, by omega⟩, fun i hi => ?_, fun i h1 h2 h3 h4 => ?_, by omega⟩⟩
      · rw [hset_ne (by omega), q3 _ (by omega) (fun e => by have := g2.ne _ e; omega)]; exact hbv3
      · rw [hst]; exact f2.frame (by omega) (fun i hi => by rw [hset_ne (by omega), q3 i (by omega) (fun e => by have := g2.ne _ e; omega)])
      · rw [hst]; exact q5.frame (by omega) (fun i hi => hset_ne (by have := hE4 i hi; omega) _ _)
      · rw [hset_ne (by omega), q3 i (by omega) (fun e => by have := g2.ne _ e; omega), f1 i (by omega), g2.fr i hi]
      · rcases q4 i hi with h | h
        · exact g3 i h
        · exact .inr (by omega)
      · rw [hset_ne h4, q3 i (by omega) (fun e => by rcases g3 i e with h | h; exact h2 h; omega), f1 i h3, g4 i h1 h2 h3 h4]
  · have hk0 : k = l.length := by omega
    subst hk0
    simp (disch := omega) [-hset_if, -Bool.decide_and, hset_ne]
    refine Fin_id ?_
    exact hk _ _ _ _ g5 ⟨g2, g3, g4, g5⟩
end Go.Aw.S25
/-
  Chapter 25: Idle.
-/
namespace Go.Aw.S25
open Go.RowKit Go.Proofs Go.Aw.Tab
set_option linter.unusedSimpArgs false
set_option linter.unusedVariables false
set_option maxRecDepth 10000
set_option maxHeartbeats 1000000
set_option pp.deepTerms false
set_option pp.deepTerms.threshold 4
set_option pp.maxSteps 1500
attribute [local simp] Lk.cells Nd.cells Dr.cells Pg.val intC boolC
variable {w0 : World} {n : Nat} {H : Heap} {K : Value → Nat → Heap → Prop} {p : Pg} {D E : Nat → Prop}
/-- The nodes of which drives come. -/
def srcs (l : List Nd) (ds : List Dr) : List Int := ds.flatMap fun d => linksP l true [d.lk]
theorem linksP_mem {l : List Nd} {b : Bool} {ks : List Lk} {x : Int} : x ∈ linksP l b ks ↔ ∃ y ∈ ks, lkB b y = true ∧ x = posP l y.node := by
  unfold linksP
  rw [compI_mem, sortI_mem]
  unfold rawP
  simp only [List.mem_map, List.mem_filter]
  constructor
  · rintro ⟨y, ⟨h1, h2⟩, rfl⟩; exact ⟨y, h1, h2, rfl⟩
  · rintro ⟨y, h1, h2, rfl⟩; exact ⟨y, ⟨h1, h2⟩, rfl⟩
theorem compI_len : ∀ l : List Int, (compI l).length ≤ l.length
  | [] => Nat.le_refl _
  | [a] => Nat.le_refl _
  | a :: b :: r => by
    have ih := compI_len (b :: r)
    unfold compI
    split
    · rw [List.length_cons (a := a)]; omega
    · rw [List.length_cons, List.length_cons (a := a)]; omega
theorem drs_find {p : Pg} (hc : checkP p = 0) {d : Dr} (hd : d ∈ p.drs) (hn : d.lk.node ≠ ⟨#[]⟩) : ∃ q : Nat, findP p.nds d.lk.node = (q : Int) ∧ q < p.nds.length ∧ posP p.nds d.lk.node = (q : Int) ∧ (at_ p.nds (q : Int)).name = d.lk.node := by
  have h : p.drs.all (drB p.nds) = true := by
    unfold checkP at hc
    split at hc
    · omega
    split at hc
    · omega
    split at hc
    · rename_i h1 h2 h3
      rw [Bool.and_eq_true] at h3
      exact h3.2
    · omega
  have h2 := List.all_eq_true.1 h d hd
  unfold drB knownB at h2
  rw [decide_eq_false hn, Bool.false_or, ← find_any] at h2
  obtain ⟨i, hi⟩ : ∃ i : Nat, findP p.nds d.lk.node = (i : Int) := ⟨_, (Int.toNat_of_nonneg (of_decide_eq_true h2)).symm⟩
  obtain ⟨h3, h4, _⟩ := fidx_spec hi
  exact ⟨i, hi, h3, by unfold posP; rw [hi, if_neg (by omega)], of_decide_eq_true h4⟩
theorem srcs_rng {p : Pg} (hc : checkP p = 0) : ∀ x ∈ srcs p.nds p.drs, 0 ≤ x ∧ x < p.nds.length := by
  intro x hx
  unfold srcs at hx
  obtain ⟨d, hd, hx⟩ := List.mem_flatMap.1 hx
  obtain ⟨y, hy, h1, rfl⟩ := linksP_mem.1 hx
  simp only [List.mem_cons, List.not_mem_nil, or_false] at hy
  subst hy
  unfold lkB at h1
  obtain ⟨q, e1, e2, e3, _⟩ := drs_find hc hd (by simpa using h1)
  omega
theorem feeds_Rng {p : Pg} (hc : checkP p = 0) : Rng (feedsP p.nds true) (srcs p.nds p.drs) :=
  ⟨(feeds_ok p.nds true (check_len hc)).rng, by rw [feeds_len]; exact srcs_rng hc⟩
theorem visK_ext (st : List Bool × List Int) (l r : List Int) : ∀ k, k ≤ l.length → visK st (l ++ r) k = visK st l k
  | 0, _ => rfl
  | k + 1, hk => by
    unfold visK
    rw [visK_ext st l r k (by omega), at_nat (by simp; omega), at_nat (by omega), List.getElem_append_left (by omega)]
/-- While the drives are looked at. -/
structure Id1 (w0 : World) (H0 H : Heap) (m n2 : Nat) (uv qv : Value) (E : Nat → Prop) (ft : List (List Int)) (ls ds : List Int) : Prop where
  ex : ∃ st, VsR w0 H0 H m n2 uv qv E st ∧ Uq ft ls st ∧ ∀ x ∈ ds, x ∈ st.2
/-- While the queue is worked off. -/
structure Id2 (w0 : World) (H0 H : Heap) (m n2 : Nat) (uv qv : Value) (E : Nat → Prop) (ft : List (List Int)) (ls : List Int) (k : Nat) : Prop where
  ex : ∃ st, VsR w0 H0 H m n2 uv qv E st ∧ Uq ft ls st ∧ (∀ x ∈ ls, x ∈ st.2) ∧ k ≤ st.2.length ∧ ∀ q : Nat, q < k → ∀ x ∈ at_ ft (at_ st.2 (q : Int)), x ∈ st.2
theorem prefix_at {a b : List Int} (h : a <+: b) {q : Nat} (hq : q < a.length) : at_ b (q : Int) = at_ a (q : Int) := by
  obtain ⟨t, rfl⟩ := h
  rw [at_nat (by simp; omega), at_nat hq, List.getElem_append_left hq]
theorem Idle_ok (hp : PrR H w0 D p) (hD : ∀ i, D i → i < n) (hib : ∀ d ∈ p.nds, d.lks.length ≤ 1000000)
    (hk : checkP p ≠ 0 → ∀ n' H', n ≤ n' → (∀ i, i < n → H' i = H i) → K (.tuple #[.slice none 0 0, .int .i64 (checkP p)]) n' H')
    (hk3 : checkP p = 0 → ∀ n' H' v E, n ≤ n' → (∀ i, i < n → H' i = H i) → (∀ i, E i → n ≤ i) → OwR ⟨Try.prog, w0⟩ H' n' E 3 1 intC v (idleP (feedsP p.nds true) (srcs p.nds p.drs)) → K (.tuple #[v, .int .i64 0]) n' H') :
    ACall ⟨Try.prog, w0⟩ 27 [p.val] K n H := by
  refine ACall.run Try.func27 rfl Try.ntmps27 Try.results27 (by simp) fun J0 => ?_
  simp (disch := omega) [-hset_if, -Bool.decide_and, hset_ne]
  try rw [show (Value.agg #[.string p.nm, .int .i64 p.per, p.nv, p.dv]).cells.toList = [.string p.nm, .int .i64 p.per, p.nv, p.dv] from rfl]
  have hbx : hset n (.cells [.string p.nm, .int .i64 p.per, p.nv, p.dv] 25 1) H n = .cells [.string p.nm, .int .i64 p.per, p.nv, p.dv] 25 1 := hset_same _ _ _
  have hfr : ∀ i, i < n → hset n (.cells [.string p.nm, .int .i64 p.per, p.nv, p.dv] 25 1) H i = H i := fun i hi => hset_ne (by omega) _ _
  generalize hset n (.cells [.string p.nm, .int .i64 p.per, p.nv, p.dv] 25 1) H = H1 at *
  have hp1 : PrR H1 w0 D p := hp.frame (fun i hi => hfr i (hD i hi))
  have hnb := hp.nb
  simp (disch := omega) [-hset_if, -Bool.decide_and, hset_ne, hbx]
  refine build_ok hp1 (fun i hi => by have := hD i hi; omega) hib ?_ ?_
  · intro n' H' a1 a2 a3
    have a3b : (checkP p != 0) = true := by simpa using a3
    simp (disch := omega) [-hset_if, -Bool.decide_and, hset_ne, a3b]
    refine Fin_id ?_
    exact hk a3 n' H' (by omega) (fun i hi => by rw [a2 i (by omega), hfr i hi])
  · intro m H2 G M fv gv a1 a2 a3 a4
    have hl := check_len a3
    have hft := a4.ft
    rw [links_feeds a3] at hft
    have hGl := a4.lt
    have hfo := feeds_ok p.nds true hl
    have hfl := feeds_len p.nds true
    have hRng := feeds_Rng a3
    have hfr2 : ∀ i, i < n → H2 i = H i := fun i hi => by rw [a2 i (by omega), hfr i hi]
    have hbx2 : H2 n = .cells [.string p.nm, .int .i64 p.per, p.nv, p.dv] 25 1 := by rw [a2 n (by omega)]; exact hbx
    replace hk3 := hk3 a3
    have hgr2 := a4.gr
    have hdb := hp.db
    have hmp2 := a4.mp
    have hp2 : PrR H2 w0 D p := hp.frame (fun i hi => hfr2 i (hD i hi))
    unfold idleP at hk3
    have hent : entB Try.prog 43 = true := by kernel_rfl
    generalize hftq : feedsP p.nds true = ft at *
    have hnl : p.nds.length = ft.length := hfl.symm
    have hln : lenK .slice p.nv = some (ft.length : Int) := by rw [← hnl]; exact hp1.ns.lenK
    simp (disch := omega) [-hset_if, -Bool.decide_and, hset_ne, hbx2, hln]
    refine ⟨by omega, ?_⟩
    have hI : VsR w0 H2 (hset (m + 2) (.cells [.slice none 0 0] 35 1) (hset (m + 1) (.cells [.slice (some ⟨new m, 0, none⟩) ft.length ft.length] 64 1) (hset m (.cells (reps ft.length [.bool false]) 4 1) H2))) m (m + 3) (.slice (some ⟨new m, 0, none⟩) ft.length ft.length) (.slice none 0 0) (fun _ => False) (List.replicate ft.length false, []) :=
      ⟨by simp (disch := omega) [-hset_if, -Bool.decide_and, hset_ne], by simp (disch := omega) [-hset_if, -Bool.decide_and, hset_ne], OwR.made (T := 4) (sz := 1) (j := m) (z := [.bool false]) (x := false) rfl (by omega) rfl (by omega) (by rw [hset_ne (by omega), hset_ne (by omega), hset_same]), OwR.nil (by omega), fun _ h => h.elim, fun i hi => by rw [hset_ne (by omega), hset_ne (by omega), hset_ne (by omega)], by omega⟩
    have hU : Uq ft (srcs p.nds p.drs) (List.replicate ft.length false, []) := ⟨by simp, fun i hi => by rw [at_nat (by simpa using hi)]; simp, by simp, by simp [List.count_replicate]⟩
    simp (disch := omega) [-hset_if, -Bool.decide_and, hset_ne, hbx2, hp1.ds.lenK]
    generalize hset (m + 2) (.cells [.slice none 0 0] 35 1) (hset (m + 1) (.cells [.slice (some ⟨new m, 0, none⟩) ft.length ft.length] 64 1) (hset m (.cells (reps ft.length [.bool false]) 4 1) H2)) = H3 at *
    generalize Value.slice (some ⟨new m, 0, none⟩) ft.length ft.length = uv at *
    refine AW.while (σ := EV) (fun s => p.drs.length - s.j) (fun s => [(4, .pointer (some ⟨new G, 0, none⟩)), (6, .pointer (some ⟨new (m + 1), 0, none⟩)), (7, .pointer (some ⟨new (m + 2), 0, none⟩)), (8, .func (.func 43) #[] #[.pointer (some ⟨new (m + 1), 0, none⟩), .pointer (some ⟨new (m + 2), 0, none⟩)]), (29, p.dv), (30, .int .i64 (p.drs.length : Int)), (31, .int .i64 (s.j : Int))])
      (fun s n4 H4 => s.j ≤ p.drs.length ∧ Id1 w0 H2 H4 m n4 uv s.v s.E ft (srcs p.nds p.drs) (srcs p.nds (p.drs.take s.j))) ⟨0, .slice none 0 0, fun _ => False⟩ ?_ ?_ ?_
    · simp (disch := omega) [-hset_if, -Bool.decide_and, hset_ne]
    · exact ⟨by simp, ⟨_, hI, hU, by simp [srcs]⟩⟩
    clear hI hU hbx2
    rintro ⟨k, qv, E4⟩ n4 H4 ⟨g1, ⟨st, g2, g3, g4⟩⟩
    dsimp only at g1 g2 g3 g4 ⊢
    have hle := g2.le
    have hp4 : PrR H4 w0 D p := hp2.frame (fun i hi => g2.fr i (by have := hD i hi; omega))
    simp (disch := omega) [-hset_if, -Bool.decide_and, hset_ne]
    refine cif_dec (fun c1 => ?_) (fun c1 => ?_)
    · have hkl : k < p.drs.length := by omega
      obtain ⟨d, hd⟩ : ∃ d, at_ p.drs (k : Int) = d := ⟨_, rfl⟩
      have hd1 : d ∈ p.drs := hd ▸ at_mem hkl
      simp (disch := omega) [-hset_if, -Bool.decide_and, hset_ne, hp4.ds.ix elemS23, hp4.ds.load0 shp56, hd]
      have g5 := g2.al (n3 := n4 + 2) (H' := hset (n4 + 1) (.cells [.string d.lk.node, .int .i64 d.lk.port, .string d.lk.pt, .int .i64 d.lk.ck, .int .i64 d.lk.cn, .bool d.lk.del, .int .i64 d.lk.ik, .int .i64 d.lk.iv] 54 8) (hset n4 (.cells [.string d.pt, .int .i64 d.lv, .string d.lk.node, .int .i64 d.lk.port, .string d.lk.pt, .int .i64 d.lk.ck, .int .i64 d.lk.cn, .bool d.lk.del, .int .i64 d.lk.ik, .int .i64 d.lk.iv] 56 1) H4)) (by omega) (fun i hi => by rw [hset_ne (by omega), hset_ne (by omega)])
      have hsl : SlR ⟨Try.prog, w0⟩ (hset (n4 + 1) (.cells [.string d.lk.node, .int .i64 d.lk.port, .string d.lk.pt, .int .i64 d.lk.ck, .int .i64 d.lk.cn, .bool d.lk.del, .int .i64 d.lk.ik, .int .i64 d.lk.iv] 54 8) (hset n4 (.cells [.string d.pt, .int .i64 d.lv, .string d.lk.node, .int .i64 d.lk.port, .string d.lk.pt, .int .i64 d.lk.ck, .int .i64 d.lk.cn, .bool d.lk.del, .int .i64 d.lk.ik, .int .i64 d.lk.iv] 56 1) H4)) (· = n4 + 1) 8 Lk.cells (.slice (some ⟨new (n4 + 1), 0, none⟩) 1 1) [d.lk] :=
        (OwR.lit (xs := [d.lk]) (n := n4 + 2) (T := 54) (j := n4 + 1) (by omega) (by simp) (by omega) (hset_same _ _ _) (by simp) rfl).sl
      generalize hset (n4 + 1) (.cells [.string d.lk.node, .int .i64 d.lk.port, .string d.lk.pt, .int .i64 d.lk.ck, .int .i64 d.lk.cn, .bool d.lk.del, .int .i64 d.lk.ik, .int .i64 d.lk.iv] 54 8) (hset n4 (.cells [.string d.pt, .int .i64 d.lv, .string d.lk.node, .int .i64 d.lk.port, .string d.lk.pt, .int .i64 d.lk.ck, .int .i64 d.lk.cn, .bool d.lk.del, .int .i64 d.lk.ik, .int .i64 d.lk.iv] 56 1) H4) = H5 at *
      refine links_ok (l := p.nds) (ks := [d.lk]) (b := true) (D := (· = n4 + 1)) (G := G) (M := M) (fv := fv) (gv := gv) (by rw [g5.fr G (by omega)]; exact hgr2) (hmp2.frame (g5.fr M (by omega))) (by omega) (by omega) hsl (fun i hi => by omega) (by simp) ?_
      intro n6 H6 v6 E6 b1 b2 b3 b4
      have g6 := g5.al b1 b2
      have hls : ∀ x ∈ linksP p.nds true [d.lk], x ∈ srcs p.nds p.drs := fun x hx => List.mem_flatMap.2 ⟨d, hd1, hx⟩
      have hnx : srcs p.nds (p.drs.take (k + 1)) = srcs p.nds (p.drs.take k) ++ linksP p.nds true [d.lk] := by
        unfold srcs
        rw [take_next hkl, hd, List.flatMap_append]; simp
      have hll : (linksP p.nds true [d.lk]).length ≤ 1000000 := by
        have h1 := rawP_len p.nds true [d.lk]
        have h2 := sortI_len (rawP p.nds true [d.lk])
        have h3 := compI_len (sortI (rawP p.nds true [d.lk]))
        simp only [List.length_cons, List.length_nil] at h1
        unfold linksP; omega
      have hq := g3.le
      have hq2 := g3.len
      generalize linksP p.nds true [d.lk] = l at *
      have hUs : ∀ x ∈ l, Us ft (srcs p.nds p.drs) x := fun x hx => .src (hls x hx)
      have hvk := visK_ok hRng g3 hUs l.length (Nat.le_refl _)
      rw [List.take_length] at hvk
      simp (disch := omega) [-hset_if, -Bool.decide_and, hset_ne, hent]
      refine visit_ok (m := m) (H0 := H2) (Dl := E6) g6 b4.sl (fun i hi => by have := b3 i hi; have := b4.lt i hi; exact ⟨by omega, fun e => by have := g2.oq.lt i e; omega, by omega, by omega⟩) hll (fun x hx => by have := (hUs x hx).rng hRng; omega) (by omega) ?_
      intro n7 H7 qv7 E7 c1 c2
      simp (disch := omega) [-hset_if, -Bool.decide_and, hset_ne]
      exact Next.mk ⟨k + 1, qv7, E7⟩ (by first | omega | (dsimp only; omega)) (by simp (disch := omega) [-hset_if, -Bool.decide_and, hset_ne]) ⟨(by first | omega | (dsimp only; omega)), ⟨_, c2.vs, hvk.1, fun x hx => by
        dsimp only at hx
        rw [hnx] at hx
        rcases List.mem_append.1 hx with hx | hx
        · exact hvk.2.2.subset (g4 x hx)
        · exact hvk.2.1 x hx⟩⟩
    · have hk0 : k = p.drs.length := by omega
      subst hk0
      rw [List.take_length] at g4
      clear hp4 hp1 hp2
      obtain ⟨rs, hrs, r1, r2⟩ := hft
      have hrl : rs.length = ft.length := by rw [← hrs, List.length_map]
      simp (disch := omega) [-hset_if, -Bool.decide_and, hset_ne]
      refine AW.while (σ := EV) (fun s => ft.length - s.j) (fun s => [(4, .pointer (some ⟨new G, 0, none⟩)), (6, .pointer (some ⟨new (m + 1), 0, none⟩)), (7, .pointer (some ⟨new (m + 2), 0, none⟩)), (8, .func (.func 43) #[] #[.pointer (some ⟨new (m + 1), 0, none⟩), .pointer (some ⟨new (m + 2), 0, none⟩)]), (11, .int .i64 (s.j : Int))])
        (fun s n5 H5 => Id2 w0 H2 H5 m n5 uv s.v s.E ft (srcs p.nds p.drs) s.j) ⟨0, qv, E4⟩ ?_ ?_ ?_
      · simp (disch := omega) [-hset_if, -Bool.decide_and, hset_ne]
      · exact ⟨st, g2, g3, g4, by simp, by simp⟩
      clear g2 g3 g4
      rintro ⟨k, qv5, E5⟩ n5 H5 ⟨st5, g2, g3, g4, g5, g6⟩
      dsimp only at g2 g3 g4 g5 g6 ⊢
      have hle5 := g2.le
      have hbq := g2.bq
      have hg5 : H5 G = .cells [.map (some (new M)), fv, gv] 62 1 := by rw [g2.fr G (by omega)]; exact hgr2
      have r15 := r1.frame (H' := H5) (fun i hi => g2.fr i hi.2)
      have hq := g3.le
      have hq2 := g3.len
      simp (disch := omega) [-hset_if, -Bool.decide_and, hset_ne, hbq, g2.oq.sl.lenK]
      refine cif_dec (fun c2 => ?_) (fun c2 => ?_)
      · have hx := g3.us _ (at_mem (l := st5.2) (j := k) c2)
        have hxr := hx.rng hRng
        obtain ⟨x, hxe⟩ : ∃ x, at_ st5.2 (k : Int) = x := ⟨_, rfl⟩
        rw [hxe] at hx hxr
        obtain ⟨q, rfl⟩ := at_drop0 (bs := []) hxr.1
        have hqr : q < rs.length := by omega
        have hqf : at_ ft (q : Int) = (at_ rs (q : Int)).2 := by rw [← hrs]; exact at_map hqr
        have r2q := (r2 _ (at_mem hqr)).frame (H' := H5) (fun i hi => g2.fr i hi.2)
        have hln := hfo.len q (by omega)
        have hUs : ∀ y ∈ at_ ft (q : Int), Us ft (srcs p.nds p.drs) y := fun y hy => .more hx hy
        have hvk := visK_ok hRng g3 hUs (at_ ft (q : Int)).length (Nat.le_refl _)
        rw [List.take_length] at hvk
        rw [← hqf] at r2q
        simp (disch := omega) [-hset_if, -Bool.decide_and, hset_ne]
        refine AW.draw (X := ⟨_, 76, _, _⟩) (id := 15) mixed (.take 0 <| .take 1 <| .take 2 <| .take 3 <| .take 4 <| .take 5 <| .take 6 <| .take 7 <| .take 8 <| .take 9 <| .take 10 <| .each 11 [] (.done) <| .stop) (by kernel_rfl) ?_
        simp (disch := omega) [-hset_if, -Bool.decide_and, hset_ne, hg5, hbq, r15.ix elemS30, r15.load0 shp35, g2.oq.sl.ix elemS35, g2.oq.sl.load0 shp3, hxe, hent]
        refine visit_ok (m := m) (H0 := H2) (l := at_ ft (q : Int)) (Dl := fun i => n ≤ i ∧ i < m) g2 (r2q.mono fun i hi => by omega) (fun i hi => ⟨by omega, fun e => by have := g2.ne i e; omega, by omega, by omega⟩) (by omega) (fun x hx => by have := (hUs x hx).rng hRng; omega) (by omega) ?_
        intro n7 H7 qv7 E7 c1 c2
        simp (disch := omega) [-hset_if, -Bool.decide_and, hset_ne]
        refine Next.mk ⟨k + 1, qv7, E7⟩ (by first | omega | (dsimp only; omega)) (by simp (disch := omega) [-hset_if, -Bool.decide_and, hset_ne]) ⟨_, c2.vs, hvk.1, fun x hx => hvk.2.2.subset (g4 x hx), ?_, fun r hr y hy => ?_⟩
        · have := hvk.2.2.length_le; dsimp only; omega
        · dsimp only at hr
          rw [prefix_at hvk.2.2 (by omega)] at hy
          by_cases e : r = k
          · subst e
            rw [hxe] at hy
            exact hvk.2.1 y hy
          · exact hvk.2.2.subset (g6 r (by omega) y hy)
      · have hkk : k = st5.2.length := by omega
        have hfin : ∀ i : Nat, i < ft.length → at_ st5.1 (i : Int) = usedB ft (srcs p.nds p.drs) i := fun i hi => g3.fin hRng g4 (fun q hq => g6 q (by omega)) hi
        have hbv := g2.bv
        simp (disch := omega) [-hset_if, -Bool.decide_and, hset_ne, hbv, g2.ou.sl.lenK]
        refine AW.while (σ := EV) (fun s => st5.1.length - s.j) (fun s => [(61, uv), (62, .int .i64 (st5.1.length : Int)), (12, s.v), (63, .int .i64 (s.j : Int))])
          (fun s n6 H6 => s.j ≤ st5.1.length ∧ SelI w0 H5 H6 n5 n6 s.v s.E (selP (fun i => !(usedB ft (srcs p.nds p.drs) i)) s.j)) ⟨0, .slice none 0 0, fun _ => False⟩ ?_ ?_ ?_
        · simp (disch := omega) [-hset_if, -Bool.decide_and, hset_ne]
        · exact ⟨by simp, ⟨OwR.nil (by omega), fun _ h => h.elim, fun _ _ => rfl, by omega⟩⟩
        rintro ⟨j, v, E6⟩ n6 H6 ⟨l1, l2⟩
        dsimp only at l1 l2 ⊢
        have hle := l2.le
        have ho6 : SlR ⟨Try.prog, w0⟩ H6 (· = m) 1 boolC uv st5.1 := g2.ou.sl.frame (fun i hi => l2.fr i (by omega))
        have hsn := selP_next (fun i => !(usedB ft (srcs p.nds p.drs) i)) j
        have hsl := selP_len (fun i => !(usedB ft (srcs p.nds p.drs) i)) j
        simp (disch := omega) [-hset_if, -Bool.decide_and, hset_ne]
        refine cif_dec (fun c3 => ?_) (fun c3 => ?_)
        · have hfj := hfin j (by omega)
          cases c4 : at_ st5.1 (j : Int) with
          | false =>
            rw [← hfj, c4] at hsn
            simp (disch := omega) [-hset_if, -Bool.decide_and, hset_ne, ho6.ix elemS64, ho6.load0 shp4, c4]
            refine l2.ou.push elemS35 zero3 (by simp) (j : Int) rfl rfl rfl (by first | omega | (dsimp only; omega)) (by first | omega | (dsimp only; omega)) ?_
            intro v7 n7 H7 E7 q1 q2 q3 q4 q5
            simp (disch := omega) [-hset_if, -Bool.decide_and, hset_ne]
            exact Next.mk ⟨j + 1, v7, E7⟩ (by first | omega | (dsimp only; omega)) (by simp (disch := omega) [-hset_if, -Bool.decide_and, hset_ne]) ⟨(by first | omega | (dsimp only; omega)), ⟨by dsimp only; rw [hsn]; exact q5, fun i hi => by rcases q4 i hi with h | h; exact l2.ne i h; omega, fun i hi => by rw [q3 i (by omega) (fun e => by have := l2.ne i e; omega), l2.fr i hi], by omega⟩⟩
          | true =>
            rw [← hfj, c4] at hsn
            simp only [Bool.not_true, Bool.false_eq_true, if_false, List.append_nil] at hsn
            simp (disch := omega) [-hset_if, -Bool.decide_and, hset_ne, ho6.ix elemS64, ho6.load0 shp4, c4]
            exact Next.mk ⟨j + 1, v, E6⟩ (by first | omega | (dsimp only; omega)) (by simp (disch := omega) [-hset_if, -Bool.decide_and, hset_ne]) ⟨(by first | omega | (dsimp only; omega)), ⟨by dsimp only; rw [hsn]; exact l2.ou, l2.ne, l2.fr, l2.le⟩⟩
        · have hk1 : j = ft.length := by omega
          subst hk1
          simp (disch := omega) [-hset_if, -Bool.decide_and, hset_ne]
          refine Fin_id ?_
          exact hk3 _ _ _ _ (by omega) (fun i hi => by rw [l2.fr i (by omega), g2.fr i (by omega), hfr2 i hi]) (fun i hi => by have := l2.ne i hi; omega) l2.ou
end Go.Aw.S25
/-
  Chapter 25: the specification's Idle.
-/
namespace Go.Aw.S25
open Go.RowKit Go.Proofs Go.Aw.Tab
set_option linter.unusedSimpArgs false
set_option linter.unusedVariables false
set_option maxRecDepth 10000
set_option maxHeartbeats 1000000
set_option pp.deepTerms false
set_option pp.deepTerms.threshold 4
set_option pp.maxSteps 1500
attribute [local simp] Lk.cells Nd.cells Dr.cells Pg.val intC boolC
variable {w0 : World} {n : Nat} {H : Heap} {K : Value → Nat → Heap → Prop} {p : Pg} {D E : Nat → Prop}
theorem selP_mem {f : Nat → Bool} {j : Nat} {x : Int} : x ∈ selP f j ↔ ∃ q : Nat, q < j ∧ f q = true ∧ x = (q : Int) := by
  unfold selP
  simp only [List.mem_map, List.mem_filter, List.mem_range]
  constructor
  · rintro ⟨q, ⟨h1, h2⟩, rfl⟩; exact ⟨q, h1, h2, rfl⟩
  · rintro ⟨q, h1, h2, rfl⟩; exact ⟨q, ⟨h1, h2⟩, rfl⟩
/-- A drive depends on one of the list. -/
def uB (nds : List Nd) (l : List Int) (d : Dr) : Bool := !(decide (d.lk.node = ⟨#[]⟩)) && decide (findP nds d.lk.node ∈ l)
theorem uB_used {p : Pg} (hc : checkP p = 0) {i : Nat} (hi : i < p.nds.length) : p.drs.any (uB p.nds (behindP (feedsP p.nds true) i ++ [(i : Int)])) = usedB (feedsP p.nds true) (srcs p.nds p.drs) i := by
  have hfl := feeds_len p.nds true
  have key : ∀ d ∈ p.drs, ∀ q : Nat, findP p.nds d.lk.node = (q : Int) → q < p.nds.length → decide (findP p.nds d.lk.node ∈ behindP (feedsP p.nds true) i ++ [(i : Int)]) = (decide ((q : Int) = (i : Int)) || at_ (bhM (feedsP p.nds true) (single (feedsP p.nds true).length i) (feedsP p.nds true).length) (q : Int)) := fun d hd q h1 h2 => by
    rw [Bool.eq_iff_iff, decide_eq_true_iff, Bool.or_eq_true_iff, decide_eq_true_iff, List.mem_append, h1]
    unfold behindP
    rw [selP_mem]
    constructor
    · rintro (⟨r, h3, h4, h5⟩ | h)
      · right
        have : q = r := by omega
        subst this; exact h4
      · left; simpa using h
    · rintro (h | h)
      · right; simpa using h
      · left; exact ⟨q, by omega, h, rfl⟩
  rw [Bool.eq_iff_iff]
  unfold usedB
  rw [List.any_eq_true, List.any_eq_true]
  constructor
  · rintro ⟨d, hd, h⟩
    unfold uB at h
    rw [Bool.and_eq_true] at h
    have hn : d.lk.node ≠ ⟨#[]⟩ := by simpa using h.1
    obtain ⟨q, e1, e2, e3, _⟩ := drs_find hc hd hn
    rw [key d hd q e1 e2] at h
    refine ⟨(q : Int), List.mem_flatMap.2 ⟨d, hd, linksP_mem.2 ⟨d.lk, by simp, ?_, e3.symm⟩⟩, h.2⟩
    unfold lkB; simp [hn]
  · rintro ⟨x, hx, h⟩
    obtain ⟨d, hd, hx⟩ := List.mem_flatMap.1 hx
    obtain ⟨y, hy, h1, rfl⟩ := linksP_mem.1 hx
    simp only [List.mem_cons, List.not_mem_nil, or_false] at hy
    subst hy
    unfold lkB at h1
    have hn : d.lk.node ≠ ⟨#[]⟩ := by simpa using h1
    obtain ⟨q, e1, e2, e3, _⟩ := drs_find hc hd hn
    refine ⟨d, hd, ?_⟩
    unfold uB
    rw [key d hd q e1 e2, decide_eq_false hn, Bool.not_false, Bool.true_and, ← e3]
    exact h
theorem any_next {α : Type} [Inhabited α] {f : α → Bool} {l : List α} {k : Nat} (h : k < l.length) : (l.take (k + 1)).any f = ((l.take k).any f || f (at_ l (k : Int))) := by
  rw [take_next h, List.any_append]; simp
theorem RIdle_ok (hp : PrR H w0 D p) (hD : ∀ i, D i → i < n) (hc : checkP p = 0)
    (hk : ∀ n' H' v E, n ≤ n' → (∀ i, i < n → H' i = H i) → (∀ i, E i → n ≤ i) → OwR ⟨Try.prog, w0⟩ H' n' E 3 1 intC v (idleP (feedsP p.nds true) (srcs p.nds p.drs)) → K v n' H') :
    ACall ⟨Try.prog, w0⟩ 28 [p.val] K n H := by
  have hl := check_len hc
  have hfl := feeds_len p.nds true
  refine ACall.run Try.func28 rfl Try.ntmps28 Try.results28 (by simp) fun J0 => ?_
  simp (disch := omega) [-hset_if, -Bool.decide_and, hset_ne]
  try rw [show (Value.agg #[.string p.nm, .int .i64 p.per, p.nv, p.dv]).cells.toList = [.string p.nm, .int .i64 p.per, p.nv, p.dv] from rfl]
  have hbx : hset n (.cells [.string p.nm, .int .i64 p.per, p.nv, p.dv] 25 1) H n = .cells [.string p.nm, .int .i64 p.per, p.nv, p.dv] 25 1 := hset_same _ _ _
  have hfr : ∀ i, i < n → hset n (.cells [.string p.nm, .int .i64 p.per, p.nv, p.dv] 25 1) H i = H i := fun i hi => hset_ne (by omega) _ _
  generalize hset n (.cells [.string p.nm, .int .i64 p.per, p.nv, p.dv] 25 1) H = H1 at *
  have hp1 : PrR H1 w0 D p := hp.frame (fun i hi => hfr i (hD i hi))
  have hnb := hp.nb
  have hdb := hp.db
  refine AW.while (σ := EV) (fun s => p.nds.length - s.j) (fun s => [(1, .pointer (some ⟨new n, 0, none⟩)), (3, s.v), (4, .int .i64 (s.j : Int))])
    (fun s n2 H2 => s.j ≤ p.nds.length ∧ SelI w0 H1 H2 (n + 1) n2 s.v s.E (selP (fun i => !(usedB (feedsP p.nds true) (srcs p.nds p.drs) i)) s.j)) ⟨0, .slice none 0 0, fun _ => False⟩ ?_ ?_ ?_
  · simp (disch := omega) [-hset_if, -Bool.decide_and, hset_ne]
  · exact ⟨by simp, ⟨OwR.nil (by omega), fun _ h => h.elim, fun _ _ => rfl, by omega⟩⟩
  rintro ⟨k, v, E2⟩ n2 H2 ⟨g1, g2⟩
  dsimp only at g1 g2 ⊢
  have hle := g2.le
  have hb2 : H2 n = .cells [.string p.nm, .int .i64 p.per, p.nv, p.dv] 25 1 := by rw [g2.fr n (by omega)]; exact hbx
  have hp2 : PrR H2 w0 D p := hp1.frame (fun i hi => g2.fr i (by have := hD i hi; omega))
  have hsn := selP_next (fun i => !(usedB (feedsP p.nds true) (srcs p.nds p.drs) i)) k
  have hsl := selP_len (fun i => !(usedB (feedsP p.nds true) (srcs p.nds p.drs) i)) k
  simp (disch := omega) [-hset_if, -Bool.decide_and, hset_ne, hb2, hp2.ns.lenK]
  refine cif_dec (fun c1 => ?_) (fun c1 => ?_)
  · have hub := uB_used hc c1
    have hbl : (behindP (feedsP p.nds true) k).length ≤ 64 := by
      have := selP_len (fun i => at_ (bhM (feedsP p.nds true) (single (feedsP p.nds true).length k) (feedsP p.nds true).length) (i : Int)) (feedsP p.nds true).length
      unfold behindP; omega
    simp (disch := omega) [-hset_if, -Bool.decide_and, hset_ne, hb2]
    refine RBehind_ok hp2 (fun i hi => by have := hD i hi; omega) hl c1 ?_
    intro n3 H3 v3 E3 a1 a2 a3 a4
    simp (disch := omega) [-hset_if, -Bool.decide_and, hset_ne]
    refine a4.push elemS35 zero3 (by simp) (k : Int) rfl rfl rfl (by first | omega | (dsimp only; omega)) (by first | omega | (dsimp only; omega)) ?_
    intro v4 n4 H4 E4 q1 q2 q3 q4 q5
    have hE4 : ∀ i, E4 i → n2 ≤ i := fun i hi => by rcases q4 i hi with h | h; exact a3 i h; omega
    have hf4 : ∀ i, i < n2 → H4 i = H2 i := fun i hi => by rw [q3 i (by omega) (fun e => by have := a3 i e; omega), a2 i hi]
    have hb4 : H4 n = .cells [.string p.nm, .int .i64 p.per, p.nv, p.dv] 25 1 := by rw [hf4 n (by omega)]; exact hb2
    have hp4 : PrR H4 w0 D p := hp2.frame (fun i hi => hf4 i (by have := hD i hi; omega))
    have hD4 : ∀ i, D i → i < n4 := fun i hi => by have := hD i hi; omega
    have ou4 := g2.ou.frame (m := n4) (H' := H4) (by omega) (fun i hi => hf4 i (g2.ou.lt i hi))
    have hll : (behindP (feedsP p.nds true) k ++ [(k : Int)]).length ≤ 65 := by rw [List.length_append]; simp; omega
    generalize behindP (feedsP p.nds true) k ++ [(k : Int)] = l at *
    generalize usedB (feedsP p.nds true) (srcs p.nds p.drs) k = ub at *
    simp (disch := omega) [-hset_if, -Bool.decide_and, hset_ne]
    refine AW.while (σ := Nat) (fun j => p.drs.length - j) (fun j => [(1, .pointer (some ⟨new n, 0, none⟩)), (3, v), (4, .int .i64 (k : Int)), (5, v4), (6, .bool ((p.drs.take j).any (uB p.nds l))), (7, .int .i64 (j : Int))])
      (fun j n5 H5 => n5 = n4 ∧ H5 = H4 ∧ j ≤ p.drs.length) 0 ?_ ?_ ?_
    · simp (disch := omega) [-hset_if, -Bool.decide_and, hset_ne]
    · exact ⟨rfl, rfl, by omega⟩
    rintro j _ _ ⟨rfl, rfl, l1⟩
    simp (disch := omega) [-hset_if, -Bool.decide_and, hset_ne, hb4, hp4.ds.lenK]
    refine cif_dec (fun c2 => ?_) (fun c2 => ?_)
    · have hjl : j < p.drs.length := by omega
      obtain ⟨d, hd⟩ : ∃ d, at_ p.drs (j : Int) = d := ⟨_, rfl⟩
      have hnx := any_next (f := uB p.nds l) hjl
      rw [hd] at hnx
      have hub2 : uB p.nds l d = (!(decide (d.lk.node = ⟨#[]⟩)) && decide (findP p.nds d.lk.node ∈ l)) := rfl
      cases c3 : (p.drs.take j).any (uB p.nds l) with
      | true =>
        rw [c3, Bool.true_or] at hnx
        simp (disch := omega) [-hset_if, -Bool.decide_and, hset_ne]
        refine AW.draw (X := ⟨_, 59, _, _⟩) (id := 10) mixed (.take 0 <| .take 1 <| .take 2 <| .take 3 <| .take 4 <| .take 5 <| .take 6 <| .take 7 <| .take 8 <| .take 9 <| .take 10 <| .take 11 <| .take 12 <| .take 13 <| .take 14 <| .take 15 <| .take 16 <| .take 17 <| .take 18 <| .take 19 <| .each 20 [11] (.each 21 [] (.take 22 <| .take 23 <| .take 24 <| .done) <| .stop) <| .stop) (by kernel_rfl) ?_
        simp (disch := omega) [-hset_if, -Bool.decide_and, hset_ne, c3]
        exact Next.mk (j + 1) (by first | omega | (dsimp only; omega)) (by rw [hnx]; simp (disch := omega) [-hset_if, -Bool.decide_and, hset_ne]) ⟨rfl, rfl, by omega⟩
      | false =>
        rw [c3, Bool.false_or, hub2] at hnx
        by_cases c4 : d.lk.node = ⟨#[]⟩
        · rw [decide_eq_true c4] at hnx
          simp (disch := omega) [-hset_if, -Bool.decide_and, hset_ne]
          refine AW.draw (X := ⟨_, 59, _, _⟩) (id := 10) mixed (.take 0 <| .take 1 <| .take 2 <| .take 3 <| .take 4 <| .take 5 <| .take 6 <| .take 7 <| .take 8 <| .take 9 <| .take 10 <| .take 11 <| .take 12 <| .take 13 <| .take 14 <| .take 15 <| .take 16 <| .take 17 <| .take 18 <| .take 19 <| .each 20 [11] (.each 21 [] (.take 22 <| .take 23 <| .take 24 <| .done) <| .stop) <| .stop) (by kernel_rfl) ?_
          simp (disch := omega) [-hset_if, -Bool.decide_and, hset_ne, c3, hb4, hp4.ds.ix elemS23, hp4.ds.load0 shp56, hp4.ds.load shp9, hd, c4, Addr.add_add]
          exact Next.mk (j + 1) (by first | omega | (dsimp only; omega)) (by rw [hnx]; simp (disch := omega) [-hset_if, -Bool.decide_and, hset_ne]) ⟨rfl, rfl, by omega⟩
        · rw [decide_eq_false c4, Bool.not_false, Bool.true_and] at hnx
          simp (disch := omega) [-hset_if, -Bool.decide_and, hset_ne]
          refine AW.draw (X := ⟨_, 59, _, _⟩) (id := 10) mixed (.take 0 <| .take 1 <| .take 2 <| .take 3 <| .take 4 <| .take 5 <| .take 6 <| .take 7 <| .take 8 <| .take 9 <| .take 10 <| .take 11 <| .take 12 <| .take 13 <| .take 14 <| .take 15 <| .take 16 <| .take 17 <| .take 18 <| .take 19 <| .each 20 [11] (.each 21 [] (.take 22 <| .take 23 <| .take 24 <| .done) <| .stop) <| .stop) (by kernel_rfl) ?_
          simp (disch := omega) [-hset_if, -Bool.decide_and, hset_ne, c3, hb4, hp4.ds.ix elemS23, hp4.ds.load0 shp56, hp4.ds.load shp9, hd, c4, Addr.add_add]
          refine Find_ok hp4 hD4 ?_
          simp (disch := omega) [-hset_if, -Bool.decide_and, hset_ne, c3, hb4, hp4.ds.ix elemS23, hp4.ds.load0 shp56, hp4.ds.load shp9, hd, c4, Addr.add_add]
          refine has_ok (l := l) q5.sl (by omega) ?_
          simp (disch := omega) [-hset_if, -Bool.decide_and, hset_ne]
          exact Next.mk (j + 1) (by first | omega | (dsimp only; omega)) (by rw [hnx]; simp (disch := omega) [-hset_if, -Bool.decide_and, hset_ne]) ⟨rfl, rfl, by omega⟩
    · have hj0 : j = p.drs.length := by omega
      subst hj0
      rw [List.take_length, hub]
      cases ub with
      | false =>
        simp (disch := omega) [-hset_if, -Bool.decide_and, hset_ne]
        refine ou4.push elemS35 zero3 (by simp) (k : Int) rfl rfl rfl (by first | omega | (dsimp only; omega)) (by first | omega | (dsimp only; omega)) ?_
        intro v7 n7 H7 E7 r1 r2 r3 r4 r5
        simp (disch := omega) [-hset_if, -Bool.decide_and, hset_ne]
        exact Next.mk ⟨k + 1, v7, E7⟩ (by first | omega | (dsimp only; omega)) (by simp (disch := omega) [-hset_if, -Bool.decide_and, hset_ne]) ⟨(by first | omega | (dsimp only; omega)), ⟨by dsimp only; rw [hsn]; exact r5, fun i hi => by rcases r4 i hi with h | h; exact g2.ne i h; omega, fun i hi => by rw [r3 i (by omega) (fun e => by have := g2.ne i e; omega), hf4 i (by omega), g2.fr i hi], by omega⟩⟩
      | true =>
        simp only [Bool.not_true, Bool.false_eq_true, if_false, List.append_nil] at hsn
        simp (disch := omega) [-hset_if, -Bool.decide_and, hset_ne]
        exact Next.mk ⟨k + 1, v, E2⟩ (by first | omega | (dsimp only; omega)) (by simp (disch := omega) [-hset_if, -Bool.decide_and, hset_ne]) ⟨(by first | omega | (dsimp only; omega)), ⟨by dsimp only; rw [hsn]; exact ou4, g2.ne, fun i hi => by rw [hf4 i (by omega), g2.fr i hi], by omega⟩⟩
  · have hk1 : k = p.nds.length := by omega
    subst hk1
    unfold idleP at hk
    rw [hfl] at hk
    simp (disch := omega) [-hset_if, -Bool.decide_and, hset_ne]
    refine Fin_id ?_
    exact hk _ _ _ _ (by omega) (fun i hi => by rw [g2.fr i (by omega), hfr i hi]) (fun i hi => by have := g2.ne i hi; omega) g2.ou
end Go.Aw.S25
