/-
  Chapter 34: holds; names.
-/
import Derived.Test.YtlcngkigfcacmaaAwTab
import Derived.Test.YtlcngkigfcacmaaAw16
namespace Go.Aw.S34
open Go.RowKit Go.Proofs Go.Aw.Tab
set_option linter.unusedSimpArgs false
set_option linter.unusedVariables false
set_option maxRecDepth 10000
set_option maxHeartbeats 1000000
set_option pp.deepTerms false
set_option pp.deepTerms.threshold 4
set_option pp.maxSteps 1500
theorem mixed : Try.prog.follows .mixedOrders = true := by kernel_rfl
structure Hold where
  nm : ByteArray
  fr : Int
  to : Int
  kind : Int
  num : Int
  seq : Int
  deriving Inhabited, DecidableEq
def Hold.cells (h : Hold) : List Value := [.string h.nm, .int .i64 h.fr, .int .i64 h.to, .int .i64 h.kind, .int .i64 h.num, .int .i64 h.seq]
attribute [local simp] Hold.cells
variable {w0 : World} {n : Nat} {H : Heap} {K : Value → Nat → Heap → Prop} {s : ByteArray}
def okB (s : ByteArray) (q : Nat) : Bool := decide (97 ≤ bt s q ∧ bt s q ≤ 122) || (decide (0 < q) && (decide (48 ≤ bt s q ∧ bt s q ≤ 57) || decide (bt s q = 95)))
def okF (s : ByteArray) : Nat → Nat → Bool
  | 0, _ => true
  | k + 1, j => okB s j && okF s k (j + 1)
/-- A name. -/
def nmB (s : ByteArray) : Bool := decide (1 ≤ s.size ∧ s.size ≤ 24) && okF s s.size 0
theorem okF_step {j : Nat} (h : j < s.size) : okF s (s.size - j) j = (okB s j && okF s (s.size - (j + 1)) (j + 1)) := by
  obtain ⟨k, hk⟩ : ∃ k, s.size - j = k + 1 := ⟨s.size - j - 1, by omega⟩
  rw [hk, okF, show s.size - (j + 1) = k by omega]
theorem okF_end {j : Nat} (h : ¬ j < s.size) : okF s (s.size - j) j = true := by
  rw [show s.size - j = 0 by omega, okF]
theorem empty_iff (s : ByteArray) : s = ⟨#[]⟩ ↔ s.size = 0 := by
  constructor
  · rintro rfl; rfl
  · intro h; cases s; rename_i d; simp [ByteArray.size] at h; simp [h]
theorem name_ok (hk : K (.bool (nmB s)) n H) : ACall ⟨Try.prog, w0⟩ 36 [.string s] K n H := by
  refine ACall.go Try.func36 rfl Try.ntmps36 Try.results36 (by simp) fun hU hu J0 => ?_
  simp (disch := omega) [-hset_if, -Bool.decide_and, hset_ne]
  by_cases h0 : s.size = 0
  · have h1 := (empty_iff s).2 h0
    repeat' (first | (with_reducible intro _; first | (exfalso; omega) | (simp (disch := omega) [-hset_if, -Bool.decide_and, hset_ne]) | skip) | (with_reducible refine And.intro ?_ ?_; omega) | with_reducible apply cif_dec | with_reducible apply cif_beq | with_reducible apply cif_bne | with_reducible apply cif_var | with_reducible apply gif_dec | with_reducible apply gif_ndec | with_reducible apply gif_beq | with_reducible apply gif_bne | with_reducible apply gif_nbeq | with_reducible apply gif_var)
    all_goals first | (exact absurd h1 (by assumption)) | skip
    refine Fin.ret hU hk (by simp) ?_ (by omega) (fun i hi => by simp (disch := omega) only [hset_ne])
    simp [nmB, h0]
  have h1 : ¬ s = ⟨#[]⟩ := fun e => h0 ((empty_iff s).1 e)
  have h2 : 0 < s.size := by omega
  have h3 := okF_step (s := s) (j := 0) (by omega)
  simp only [Nat.sub_zero] at h3
  repeat' (first | (with_reducible intro _; first | (exfalso; omega) | (simp (disch := omega) [-hset_if, -Bool.decide_and, hset_ne, h2]) | skip) | (with_reducible refine And.intro ?_ ?_; omega) | with_reducible apply cif_dec | with_reducible apply cif_beq | with_reducible apply cif_bne | with_reducible apply cif_var | with_reducible apply gif_dec | with_reducible apply gif_ndec | with_reducible apply gif_beq | with_reducible apply gif_bne | with_reducible apply gif_nbeq | with_reducible apply gif_var)
  all_goals try (exact absurd (by assumption) h1)
  all_goals try (refine Fin.ret hU hk (by simp) ?_ (by omega) (fun i hi => by simp (disch := omega) only [hset_ne]); simp [nmB, h3, okB]; omega)
  rename_i hs h4 h5
  have hk1 : K (.bool (okF s (s.size - 0) 0)) n H := by
    have : nmB s = okF s (s.size - 0) 0 := by unfold nmB; rw [decide_eq_true (by omega)]; simp
    rw [← this]; exact hk
  clear hk h3
  refine AW.while (σ := Nat) (fun j => s.size - j) (fun j => [(0, .string s), (23, .int .i64 s.size), (24, .int .i64 j)])
    (fun j n1 H1 => n1 = n ∧ H1 = H ∧ j ≤ s.size ∧ K (.bool (okF s (s.size - j) j)) n H) 0 ?_ ?_ ?_
  · simp (disch := omega) [-hset_if, -Bool.decide_and, hset_ne]
  · exact ⟨rfl, rfl, by omega, hk1⟩
  clear hk1
  rintro j n1 H1 ⟨rfl, rfl, g1, hk⟩
  simp (disch := omega) [-hset_if, -Bool.decide_and, hset_ne]
  refine cif_dec (fun h => ?_) (fun h => ?_)
  · rw [okF_step h] at hk
    have hj : 0 < j ∨ bt s (j : Int) = bt s 0 := by
      rcases Nat.eq_zero_or_pos j with rfl | h
      · exact .inr rfl
      · exact .inl h
    simp (disch := omega) [-hset_if, -Bool.decide_and, hset_ne]
    repeat' (first | (with_reducible intro _; first | (exfalso; omega) | (simp (disch := omega) [-hset_if, -Bool.decide_and, hset_ne]) | skip) | (with_reducible refine And.intro ?_ ?_; omega) | with_reducible apply cif_dec | with_reducible apply cif_beq | with_reducible apply cif_bne | with_reducible apply cif_var | with_reducible apply gif_dec | with_reducible apply gif_ndec | with_reducible apply gif_beq | with_reducible apply gif_bne | with_reducible apply gif_nbeq | with_reducible apply gif_var)
    all_goals first
      | (refine Fin.ret hU hk (by simp) ?_ (by omega) (fun i hi => by simp (disch := omega) only [hset_ne]))
      | (refine Next.mk (j + 1) (by omega) (by simp (disch := omega) [-hset_if, -Bool.decide_and, hset_ne]) ⟨rfl, rfl, by omega, ?_⟩)
    all_goals first
      | (have e : okB s j = false := by simp [okB]; omega
         simp [e]; done)
      | (have e : okB s j = true := by simp [okB]; omega
         simpa [e] using hk)
  · rw [okF_end h] at hk
    simp (disch := omega) [-hset_if, -Bool.decide_and, hset_ne]
    exact Fin.ret hU hk (by simp) rfl (by omega) (fun i hi => by simp (disch := omega) only [hset_ne])
theorem nameR_ok (hb : s.size ≤ 4611686018427387903) (hk : K (.bool (nmB s)) n H) : ACall ⟨Try.prog, w0⟩ 30 [.string s] K n H := by
  refine ACall.go Try.func30 rfl Try.ntmps30 Try.results30 (by simp) fun hU hu J0 => ?_
  simp (disch := omega) [-hset_if, -Bool.decide_and, hset_ne]
  refine AW.while (σ := Nat) (fun j => s.size - j) (fun j => [(0, .string s), (3, .int .i64 j)])
    (fun j n1 H1 => n1 = n ∧ H1 = H ∧ j ≤ s.size ∧ K (.bool (decide (1 ≤ s.size ∧ s.size ≤ 24) && okF s (s.size - j) j)) n H) 0 ?_ ?_ ?_
  · simp (disch := omega) [-hset_if, -Bool.decide_and, hset_ne]
  · exact ⟨rfl, rfl, by omega, hk⟩
  clear hk
  rintro j n1 H1 ⟨rfl, rfl, g1, hk⟩
  simp (disch := omega) [-hset_if, -Bool.decide_and, hset_ne]
  refine cif_dec (fun h => ?_) (fun h => ?_)
  · rw [okF_step h] at hk
    simp (disch := omega) [-hset_if, -Bool.decide_and, hset_ne, h]
    repeat' (first | (with_reducible intro _; first | (exfalso; omega) | (simp (disch := omega) [-hset_if, -Bool.decide_and, hset_ne, h]) | skip) | (with_reducible refine And.intro ?_ ?_; omega) | with_reducible apply cif_dec | with_reducible apply cif_beq | with_reducible apply cif_bne | with_reducible apply cif_var | with_reducible apply gif_dec | with_reducible apply gif_ndec | with_reducible apply gif_beq | with_reducible apply gif_bne | with_reducible apply gif_nbeq | with_reducible apply gif_var)
    all_goals first
      | (refine Fin.ret hU hk (by simp) ?_ (by omega) (fun i hi => by simp (disch := omega) only [hset_ne]))
      | (refine Next.mk (j + 1) (by omega) (by simp (disch := omega) [-hset_if, -Bool.decide_and, hset_ne]) ⟨rfl, rfl, by omega, ?_⟩)
    all_goals first
      | (have e : okB s j = false := by simp [okB]; omega
         simp [e]; done)
      | (have e : okB s j = true := by simp [okB]; omega
         simpa [e] using hk)
  · rw [okF_end h] at hk
    simp (disch := omega) [-hset_if, -Bool.decide_and, hset_ne]
    repeat' (first | (with_reducible intro _; first | (exfalso; omega) | (simp (disch := omega) [-hset_if, -Bool.decide_and, hset_ne]) | skip) | (with_reducible refine And.intro ?_ ?_; omega) | with_reducible apply cif_dec | with_reducible apply cif_beq | with_reducible apply cif_bne | with_reducible apply cif_var | with_reducible apply gif_dec | with_reducible apply gif_ndec | with_reducible apply gif_beq | with_reducible apply gif_bne | with_reducible apply gif_nbeq | with_reducible apply gif_var)
    all_goals refine Fin.ret hU hk (by simp) ?_ (by omega) (fun i hi => by simp (disch := omega) only [hset_ne])
    · congr 1; rw [Bool.and_true, decide_eq_decide]; omega
    · congr 1; rw [Bool.and_true, decide_eq_false_iff_not]; omega
/-- The index of the first element that has p, or -1. -/
def fidx {α : Type} (p : α → Bool) : List α → Int
  | [] => -1
  | x :: r => if p x then 0 else if fidx p r < 0 then -1 else fidx p r + 1
theorem fidx_ge {α : Type} (p : α → Bool) : ∀ l, -1 ≤ fidx p l
  | [] => by simp [fidx]
  | x :: r => by
    have := fidx_ge p r
    simp only [fidx]
    split <;> (try split) <;> omega
theorem fidx_found {α : Type} [Inhabited α] {p : α → Bool} {xs : List α} {j : Nat} (h : j < xs.length) (hp : p (at_ xs (j : Int)) = true) (hq : ∀ q, q < j → p (at_ xs (q : Int)) = false) : fidx p xs = j := by
  induction xs generalizing j with
  | nil => simp at h
  | cons x r ih =>
    cases j with
    | zero =>
      have : at_ (x :: r) ((0 : Nat) : Int) = x := by simp [at_]
      rw [this] at hp
      simp [fidx, hp]
    | succ j =>
      have h0 := hq 0 (by omega)
      have e0 : at_ (x :: r) ((0 : Nat) : Int) = x := by simp [at_]
      rw [e0] at h0
      have es : ∀ q : Nat, at_ (x :: r) ((q + 1 : Nat) : Int) = at_ r (q : Int) := fun q => by simp [at_]
      rw [es] at hp
      have := ih (j := j) (by simpa using h) hp (fun q hq2 => by rw [← es]; exact hq (q + 1) (by omega))
      simp only [fidx, h0, this]
      simp only [Bool.false_eq_true, if_false]
      rw [if_neg (by omega)]
      omega
theorem fidx_none {α : Type} [Inhabited α] {p : α → Bool} {xs : List α} (hq : ∀ q, q < xs.length → p (at_ xs (q : Int)) = false) : fidx p xs = -1 := by
  induction xs with
  | nil => rfl
  | cons x r ih =>
    have h0 := hq 0 (by simp)
    have e0 : at_ (x :: r) ((0 : Nat) : Int) = x := by simp [at_]
    rw [e0] at h0
    have es : ∀ q : Nat, at_ (x :: r) ((q + 1 : Nat) : Int) = at_ r (q : Int) := fun q => by simp [at_]
    have := ih (fun q h => by rw [← es]; exact hq (q + 1) (by simpa using h))
    simp [fidx, h0, this]
theorem fidx_any {α : Type} (p : α → Bool) (l : List α) : decide (0 ≤ fidx p l) = l.any p := by
  induction l with
  | nil => rfl
  | cons x r ih =>
    have h := fidx_ge p r
    rw [List.any_cons, ← ih, fidx]
    by_cases h1 : p x
    · simp [h1]
    · simp only [h1]
      by_cases h2 : fidx p r < 0
      · simp [h2]
      · simp [h2]; omega
end Go.Aw.S34
