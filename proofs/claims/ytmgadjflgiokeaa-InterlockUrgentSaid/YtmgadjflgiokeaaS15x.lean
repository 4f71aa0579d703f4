/-
  Chapter 15: the laws of a run.
-/
import Derived.Test.YtmgadjflgiokeaaS15v
namespace Go.Aw.S15
open Go.RowKit Go.Proofs Go.Aw.Tab
set_option linter.unusedSimpArgs false
set_option linter.unusedVariables false
set_option maxRecDepth 10000
set_option maxHeartbeats 1000000
variable {rs : List Req} {dead on left now w t : Int} {np : Nat} {s : Sta} {xs : List Int}
theorem first_in {a b : Int} (h : 0 ≤ first on rs a b) : inB a b (at_ rs (first on rs a b)) = true := by
  unfold first at *
  split
  · rename_i h1; exact h1.2
  · rename_i h1; rw [if_neg h1] at h; exact (fidx_at _ _ h).2
theorem inB_asks {a b : Int} {r : Req} (h : inB a b r = true) : asksB r = true := by
  unfold inB at h; simp at h; exact h.1.1
theorem win_asks (h : 0 ≤ win on rs) : asksB (at_ rs (win on rs)) = true := by
  have h1 := @first_in rs on 1 1
  have h2 := @first_in rs on 2 2
  have h3 := @first_in rs on 1 17
  have h4 := @inB_asks
  unfold win at *
  grind
theorem at_mapI {α β : Type} [Inhabited α] [Inhabited β] {l : List α} {f : α → β} {z : Int} (h0 : 0 ≤ z) (h : z < l.length) : at_ (l.map f) z = f (at_ l z) := by
  rw [at_lt h0 h, at_lt h0 (by simpa using h)]; simp
theorem asks_ne {x : Int} (h : asksB (askR x) = true) : x ≠ 0 := by
  intro e
  subst e
  simp [askR, asksB] at h
structure Good (np : Nat) (now : Int) (i : Nat) (s : Sta) : Prop where
  lo : -1 ≤ s.on
  hi : s.on < np
  l0 : 0 ≤ s.left
  l1 : s.left ≤ now + i
structure StepP (np : Nat) (dead : Int) (xs : List Int) (t : Int) (s s' : Sta) : Prop where
  on : s'.on = -1 ∨ 0 ≤ s'.on ∧ s'.on < np ∧ at_ xs s'.on ≠ 0
  stay : 0 ≤ s.on → s'.on = s.on → s' = s
  off : 0 ≤ s.on → s'.on ≠ s.on → s'.on = -1 ∧ s'.left = t
  keep : s.on < 0 → s'.left = s.left
  wait : s.on < 0 → 0 ≤ s'.on → dead ≤ t - s.left
theorem next_step (h : -1 ≤ s.on) (h1 : s.on < np) (hx : xs.length = np) : StepP np dead xs t s (nextS dead s (xs.map askR) t) := by
  have hr := @win_range (xs.map askR) s.on (by simp; omega)
  have hw : 0 ≤ win s.on (xs.map askR) → at_ xs (win s.on (xs.map askR)) ≠ 0 := fun h0 => by
    have := win_asks h0
    rw [at_mapI h0 (by simpa using hr.2)] at this
    exact asks_ne this
  simp at hr
  unfold nextS
  generalize win s.on (xs.map askR) = w at hr hw ⊢
  constructor <;> grind
theorem good_next {i : Nat} (hg : Good np now i s) (hx : xs.length = np) (h0 : 0 ≤ now) : Good np now (i + 1) (nextS dead s (xs.map askR) (now + i)) := by
  have h := @next_step dead (now + i) np s xs hg.lo hg.hi hx
  obtain ⟨a1, a2, a3, a4, a5⟩ := h
  obtain ⟨b1, b2, b3, b4⟩ := hg
  constructor <;> grind
theorem levels_ok (h : xs.all lvlB = true) : (xs.map askR).any (fun r => !okLvl r) = false := by
  rw [List.any_eq_false]
  intro r hr
  obtain ⟨x, hx, rfl⟩ := List.mem_map.1 hr
  have := List.all_eq_true.1 h x hx
  simp [lvlB] at this
  unfold askR okLvl
  split <;> simp <;> omega
theorem good_timely {i : Nat} (hg : Good np now i s) (hx : rowB np xs = true) (h0 : 0 ≤ now) (h1 : now ≤ 1000000) (hi : i ≤ 100) (hd : 0 ≤ dead ∧ dead ≤ 3600) : timelyE np dead s.on s.left (xs.map askR) (now + i) = 0 := by
  simp [rowB] at hx
  obtain ⟨b1, b2, b3, b4⟩ := hg
  refine timelyE_iff.2 ⟨formedB_iff.2 ⟨by simp; omega, by omega, by omega, by omega, by omega, by omega, levels_ok (by simpa using hx.2)⟩, by omega, by omega, by omega⟩
theorem runS_some (h0 : 0 ≤ now) (h1 : now ≤ 1000000) (hd : 0 ≤ dead ∧ dead ≤ 3600) : ∀ (rows : List (List Int)) (i : Nat) (s : Sta), Good np now i s → i + rows.length ≤ 100 → rows.all (rowB np) = true → ∃ l, runS np dead now s i rows = some l
  | [], _, _, _, _, _ => ⟨[], rfl⟩
  | xs :: r, i, s, hg, hi, hr => by
    simp only [List.all_cons, Bool.and_eq_true] at hr
    have hx := hr.1
    simp [rowB] at hx
    obtain ⟨l, hl⟩ := runS_some h0 h1 hd r (i + 1) _ (good_next (dead := dead) hg hx.1 h0) (by simp at hi; omega) hr.2
    exact ⟨_, by rw [runS, if_pos (good_timely hg hr.1 h0 h1 (by omega) hd), hl]; rfl⟩
/-- The state ahead of index j. -/
def prevS (s : Sta) (l : List Sta) (j : Nat) : Sta := if j = 0 then s else at_ l ((j : Int) - 1)
theorem runS_at (h0 : 0 ≤ now) : ∀ (rows : List (List Int)) (i : Nat) (s : Sta) (l : List Sta), Good np now i s → rows.all (rowB np) = true → runS np dead now s i rows = some l →
    l.length = rows.length ∧ ∀ j, j < l.length → StepP np dead (at_ rows (j : Int)) (now + i + j) (prevS s l j) (at_ l (j : Int)) ∧ Good np now (i + j) (prevS s l j) ∧ at_ l (j : Int) = nextS dead (prevS s l j) ((at_ rows (j : Int)).map askR) (now + i + j)
  | [], i, s, l, _, _, h => by simp [runS] at h; subst h; simp
  | xs :: r, i, s, l, hg, hr, h => by
    simp only [List.all_cons, Bool.and_eq_true] at hr
    have hx := hr.1
    simp [rowB] at hx
    rw [runS] at h
    split at h
    · obtain ⟨l', h1, rfl⟩ := Option.map_eq_some_iff.1 h
      obtain ⟨e1, e2⟩ := runS_at h0 r (i + 1) _ l' (good_next (dead := dead) hg hx.1 h0) hr.2 h1
      refine ⟨by simp [e1], fun j hj => ?_⟩
      cases j with
      | zero =>
        have := @next_step dead (now + i) np s xs hg.lo hg.hi hx.1
        simpa [prevS, at_] using ⟨this, hg⟩
      | succ j =>
        have h2 := e2 j (by simpa using hj)
        have a1 : at_ (xs :: r) ((j + 1 : Nat) : Int) = at_ r (j : Int) := by simp [at_]
        have a2 : at_ (nextS dead s (xs.map askR) (now + i) :: l') ((j + 1 : Nat) : Int) = at_ l' (j : Int) := by simp [at_]
        have a3 : prevS s (nextS dead s (xs.map askR) (now + i) :: l') (j + 1) = prevS (nextS dead s (xs.map askR) (now + i)) l' j := by
          unfold prevS
          rw [if_neg (by omega)]
          cases j with
          | zero => simp [at_]
          | succ j =>
            rw [if_neg (by omega)]
            have b1 : ((j + 1 + 1 : Nat) : Int) - 1 = ((j + 1 : Nat) : Int) := by omega
            have b2 : ((j + 1 : Nat) : Int) - 1 = (j : Int) := by omega
            rw [b1, b2]; simp [at_]
        rw [a1, a2, a3]
        have a4 : now + (i : Int) + ((j + 1 : Nat) : Int) = now + ((i + 1 : Nat) : Int) + j := by omega
        have a5 : i + (j + 1) = i + 1 + j := by omega
        rw [a4, a5]
        exact h2
    · cases h
theorem brk_none (h0 : 0 ≤ now) : ∀ (rows : List (List Int)) (i : Nat) (s : Sta) (l : List Sta) (off : Int) (ever : Bool), Good np now i s → rows.all (rowB np) = true → runS np dead now s i rows = some l →
    (s.on < 0 → ever = true → s.left = now + off) → (i = 0 → s.on < 0) → brk np dead l i s.on off ever = -1
  | [], i, s, l, off, ever, _, _, h, _, _ => by simp [runS] at h; subst h; rfl
  | xs :: r, i, s, l, off, ever, hg, hr, h, hi, hz => by
    simp only [List.all_cons, Bool.and_eq_true] at hr
    have hx := hr.1
    simp [rowB] at hx
    rw [runS] at h
    split at h
    · obtain ⟨l', h1, rfl⟩ := Option.map_eq_some_iff.1 h
      have hg' := good_next (dead := dead) hg hx.1 h0
      have hs := @next_step dead (now + i) np s xs hg.lo hg.hi hx.1
      have ih := fun off ever => brk_none h0 r (i + 1) _ l' off ever hg' hr.2 h1
      generalize nextS dead s (xs.map askR) (now + i) = s' at hg' hs ih ⊢
      have e : onP np s' = s'.on := by
        have := hg'.lo; have := hg'.hi
        unfold onP; split <;> omega
      obtain ⟨a1, a2, a3, a4, a5⟩ := hs
      have ih1 := fun h => ih i true h (by omega)
      have ih2 := fun h => ih off ever h (by omega)
      rw [brk, e]
      have hb := hg.lo
      clear ih h h1 hr
      split
      · split
        · exfalso; grind
        · split
          · exact ih1 (by grind)
          · exact ih2 (by grind)
      · exact ih2 (by grind)
    · cases h
end Go.Aw.S15
