/-
  Chapter 34: which lists are valid, in other words; the hold that governs, in other words; no program.
-/
import Derived.Test.YtlcngkigfcacmaaS34l
namespace Go.Aw.S34
open Go.RowKit Go.Proofs Go.Aw.Tab
set_option linter.unusedSimpArgs false
set_option linter.unusedVariables false
set_option maxRecDepth 10000
set_option maxHeartbeats 1000000
variable {l : List Hold} {t fr to kd nu : Int}
def ordR (x y : Hold) : Prop := x.seq ≠ y.seq ∧ lsB x.nm y.nm = true
def okH (x : Hold) : Prop := nmB x.nm = true ∧ rngB x = true ∧ kindB x = true
theorem chk_iff : chk l = 0 ↔ l.length ≤ 64 ∧ (∀ x ∈ l, okH x) ∧ l.Pairwise ordR := by
  have hr : rF l l.length 0 = true ↔ l.Pairwise ordR := by
    rw [rF_iff, List.pairwise_iff_getElem]
    constructor
    · intro h i j hi hj hij
      have := (rAt_iff hj).1 (h j (by omega) (by omega)) i hij
      rw [at_nat hi, at_nat hj] at this
      exact this
    · intro h i _ hi
      refine (rAt_iff (by omega)).2 fun k hk => ?_
      rw [at_nat (by omega), at_nat (by omega)]
      exact h k i (by omega) (by omega) hk
  rw [← hr, ← dup_eq]
  unfold chk
  constructor
  · intro h
    split at h
    · omega
    split at h
    · omega
    split at h
    · omega
    split at h
    · omega
    split at h
    · omega
    rename_i h1 h2 h3 h4 h5
    refine ⟨by omega, fun x hx => ?_, by simpa using h5⟩
    simp only [Bool.not_eq_false, List.all_eq_true] at h2 h3 h4
    exact ⟨h2 x hx, h3 x hx, h4 x hx⟩
  · rintro ⟨h1, h2, h3⟩
    have a1 : l.all (fun h => nmB h.nm) = true := List.all_eq_true.2 fun x hx => (h2 x hx).1
    have a2 : l.all rngB = true := List.all_eq_true.2 fun x hx => (h2 x hx).2.1
    have a3 : l.all kindB = true := List.all_eq_true.2 fun x hx => (h2 x hx).2.2
    rw [if_neg (by omega), if_neg (by simp [a1]), if_neg (by simp [a2]), if_neg (by simp [a3]), if_neg (by simp [h3])]
theorem chk_filter {p : Hold → Bool} (h : chk l = 0) : chk (l.filter p) = 0 := by
  obtain ⟨h1, h2, h3⟩ := chk_iff.1 h
  refine chk_iff.2 ⟨Nat.le_trans (List.length_filter_le _ _) h1, fun x hx => h2 x (List.mem_filter.1 hx).1, h3.filter p⟩
/-- The hold that governs. -/
def beatB (o : Option Hold) (h : Hold) : Bool := match o with | none => true | some b => decide (b.seq < h.seq)
def bst (t : Int) (o : Option Hold) (h : Hold) : Option Hold := if h.fr ≤ t ∧ t < h.to ∧ beatB o h = true then some h else o
def gvH (l : List Hold) (t : Int) : Option Hold := l.foldl (bst t) none
def toO (l : List Hold) (b : Int) : Option Hold := if b < 0 then none else some (at_ l b)
theorem toO_better {j : Nat} {b : Int} (h : j < l.length) : toO l (better l t j b) = bst t (toO l b) (at_ l (j : Int)) := by
  unfold better bst
  have hj : toO l (j : Int) = some (at_ l (j : Int)) := if_neg (by omega)
  by_cases hb : b < 0
  · have e : toO l b = none := if_pos hb
    rw [e]
    by_cases c : (at_ l (j : Int)).fr ≤ t ∧ t < (at_ l (j : Int)).to
    · rw [if_pos ⟨c.1, c.2, .inl hb⟩, if_pos ⟨c.1, c.2, rfl⟩, hj]
    · rw [if_neg (fun d => c ⟨d.1, d.2.1⟩), if_neg (fun d => c ⟨d.1, d.2.1⟩), e]
  · have e : toO l b = some (at_ l b) := if_neg hb
    rw [e]
    by_cases c : (at_ l (j : Int)).fr ≤ t ∧ t < (at_ l (j : Int)).to ∧ (at_ l b).seq < (at_ l (j : Int)).seq
    · rw [if_pos ⟨c.1, c.2.1, .inr c.2.2⟩, if_pos ⟨c.1, c.2.1, decide_eq_true c.2.2⟩, hj]
    · rw [if_neg (fun d => c ⟨d.1, d.2.1, d.2.2.resolve_left hb⟩), if_neg (fun d => c ⟨d.1, d.2.1, of_decide_eq_true d.2.2⟩), e]
theorem govF_fold : ∀ (k j : Nat) (b : Int), j + k = l.length → toO l (govF l t k j b) = (l.drop j).foldl (bst t) (toO l b)
  | 0, j, b, h => by rw [govF, List.drop_of_length_le (by omega)]; rfl
  | k + 1, j, b, h => by
    rw [govF, govF_fold k (j + 1) _ (by omega), toO_better (by omega), drop_at (l := l) (j := j) (by omega)]; rfl
theorem gov_gvH : toO l (gov l t) = gvH l t := by
  unfold gov
  rw [govF_fold l.length 0 (-1) (by omega), List.drop_zero]; rfl
theorem valP_gvH (h : chk l = 0) : valP l t kd nu = match gvH l t with | some x => (x.kind, x.num) | none => (kd, nu) := by
  have e : atC (chk l) l t = gov l t := if_pos h
  rw [← gov_gvH]
  unfold valP toO
  rw [e]
  by_cases hg : 0 ≤ gov l t
  · rw [if_pos hg, if_neg (by omega)]
  · rw [if_neg hg, if_pos (by omega)]
theorem fold_filter {p : Hold → Bool} (h : ∀ x, p x = false → ¬ (x.fr ≤ t ∧ t < x.to)) : ∀ (l : List Hold) (o : Option Hold), (l.filter p).foldl (bst t) o = l.foldl (bst t) o
  | [], _ => rfl
  | x :: r, o => by
    cases hp : p x with
    | true => rw [List.filter_cons_of_pos hp, List.foldl_cons, List.foldl_cons, fold_filter h r]
    | false =>
      rw [List.filter_cons_of_neg (by simp [hp]), List.foldl_cons, fold_filter h r]
      have : bst t o x = o := by
        unfold bst
        rw [if_neg (fun c => h x hp ⟨c.1, c.2.1⟩)]
      rw [this]
/-- What Expire returns. -/
def exL (l : List Hold) (t : Int) : List Hold := if chk l = 0 then l.filter fun x => !decide (x.to ≤ t) else []
theorem chk_nil : chk [] = 0 := by simp [chk, dupF]
theorem expires_law {later : Int} (h : t ≤ later) : valP (exL l t) later kd nu = valP l later kd nu := by
  by_cases hc : chk l = 0
  · have e : exL l t = l.filter fun x => !decide (x.to ≤ t) := if_pos hc
    rw [e, valP_gvH (chk_filter hc), valP_gvH hc]
    unfold gvH
    rw [fold_filter (fun x hx => by
      have : x.to ≤ t := by simpa using hx
      omega)]
  · have e : exL l t = [] := if_neg hc
    rw [e, valP_gvH chk_nil]
    have e2 : atC (chk l) l later = -1 := if_neg hc
    unfold valP
    rw [e2, if_neg (by omega)]; rfl
end Go.Aw.S34
