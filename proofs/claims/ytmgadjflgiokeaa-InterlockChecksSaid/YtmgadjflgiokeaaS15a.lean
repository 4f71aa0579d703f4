/-
  Chapter 15: requests; the first one of a kind.
-/
import Derived.Test.YtmgadjflgiokeaaAwTab
import Derived.Test.YtmgadjflgiokeaaAw14
namespace Go.Aw.S15
open Go.RowKit Go.Proofs Go.Aw.Tab
set_option linter.unusedSimpArgs false
set_option linter.unusedVariables false
set_option maxRecDepth 10000
set_option maxHeartbeats 1000000
set_option pp.deepTerms false
set_option pp.deepTerms.threshold 4
set_option pp.maxSteps 1500
theorem mixed : Try.prog.follows .mixedOrders = true := by kernel_rfl
structure Req where
  lvl : Int
  kind : Int
  num : Int
  deriving Inhabited, DecidableEq
def Req.cells (r : Req) : List Value := [.int .i64 r.lvl, .int .i64 r.kind, .int .i64 r.num]
attribute [local simp] Req.cells
/-- The index of the first element that has p, or -1. -/
def fidx {α : Type} (p : α → Bool) : List α → Int
  | [] => -1
  | x :: r => if p x then 0 else if fidx p r < 0 then -1 else fidx p r + 1
theorem fidx_ge {α : Type} (p : α → Bool) : ∀ l, -1 ≤ fidx p l
  | [] => by simp [fidx]
  | x :: r => by
    have := fidx_ge p r
    simp only [fidx]
    split <;> (try split) <;> omega
theorem fidx_found {α : Type} [Inhabited α] {p : α → Bool} {xs : List α} {j : Nat} (h : j < xs.length) (hp : p (at_ xs (j : Int)) = true) (hq : ∀ q, q < j → p (at_ xs (q : Int)) = false) : fidx p xs = j := by
  induction xs generalizing j with
  | nil => simp at h
  | cons x r ih =>
    cases j with
    | zero =>
      have : at_ (x :: r) ((0 : Nat) : Int) = x := by simp [at_]
      rw [this] at hp
      simp [fidx, hp]
    | succ j =>
      have h0 := hq 0 (by omega)
      have e0 : at_ (x :: r) ((0 : Nat) : Int) = x := by simp [at_]
      rw [e0] at h0
      have es : ∀ q : Nat, at_ (x :: r) ((q + 1 : Nat) : Int) = at_ r (q : Int) := fun q => by simp [at_]
      rw [es] at hp
      have := ih (j := j) (by simpa using h) hp (fun q hq2 => by rw [← es]; exact hq (q + 1) (by omega))
      simp only [fidx, h0, this]
      simp only [Bool.false_eq_true, if_false]
      rw [if_neg (by omega)]
      omega
theorem fidx_none {α : Type} [Inhabited α] {p : α → Bool} {xs : List α} (hq : ∀ q, q < xs.length → p (at_ xs (q : Int)) = false) : fidx p xs = -1 := by
  induction xs with
  | nil => rfl
  | cons x r ih =>
    have h0 := hq 0 (by simp)
    have e0 : at_ (x :: r) ((0 : Nat) : Int) = x := by simp [at_]
    rw [e0] at h0
    have es : ∀ q : Nat, at_ (x :: r) ((q + 1 : Nat) : Int) = at_ r (q : Int) := fun q => by simp [at_]
    have := ih (fun q h => by rw [← es]; exact hq (q + 1) (by simpa using h))
    simp [fidx, h0, this]
theorem fidx_iff {α : Type} (p : α → Bool) : ∀ l, 0 ≤ fidx p l ↔ l.any p = true
  | [] => by simp [fidx]
  | x :: r => by
    have ih := fidx_iff p r
    have hge := fidx_ge p r
    rw [List.any_cons, Bool.or_eq_true, ← ih]
    simp only [fidx]
    split
    · rename_i h; simp [h]
    · rename_i h
      split
      · simp [h]; omega
      · simp [h]; omega
theorem fidx_any {α : Type} (p : α → Bool) (l : List α) : decide (0 ≤ fidx p l) = l.any p := by
  rw [Bool.eq_iff_iff, decide_eq_true_iff]; exact fidx_iff p l
variable {w0 : World} {n : Nat} {H : Heap} {K : Value → Nat → Heap → Prop}
/-- slices.IndexFunc and ContainsFunc over Req. -/
theorem indexReq_ok {v : Value} {D : Nat → Prop} {xs : List Req} {g : FuncId} {caps : Array Value} {p : Req → Bool} (hs : SlR ⟨Try.prog, w0⟩ H D 3 Req.cells v xs) (hD : ∀ i, D i → i < n)
    (hg : ∀ r ∈ xs, ∀ n' H' (K' : Value → Nat → Heap → Prop), n ≤ n' → (∀ i, i < n → H' i = H i) → (∀ n'' H'', n' ≤ n'' → (∀ i, i < n' → H'' i = H' i) → K' (.bool (p r)) n'' H'') → ACall ⟨Try.prog, w0⟩ g ((.agg r.cells.toArray) :: caps.toList) K' n' H')
    (hb : xs.length < 9223372036854775807) (hent : entB Try.prog g = true) (hk : ∀ n' H', n ≤ n' → (∀ i, i < n → H' i = H i) → K (.int .i64 (fidx p xs)) n' H') : ACall ⟨Try.prog, w0⟩ 84 [v, .func (.func g) #[] caps] K n H := by
  refine ACall.run Try.func84 rfl Try.ntmps84 Try.results84 (by simp) fun J0 => ?_
  simp (disch := omega) [-hset_if, -Bool.decide_and, hset_ne, hs.lenK]
  refine AW.while (σ := Nat) (fun j => xs.length - j) (fun j => [(0, v), (1, .func (.func g) #[] caps), (7, .int .i64 xs.length), (8, .int .i64 j)]) (fun j n1 H1 => j ≤ xs.length ∧ n ≤ n1 ∧ (∀ i, i < n → H1 i = H i) ∧ ∀ q, q < j → p (at_ xs (q : Int)) = false) 0 ?_ ?_ ?_
  · simp (disch := omega) [-hset_if, -Bool.decide_and, hset_ne]
  · exact ⟨by omega, Nat.le_refl _, fun _ _ => rfl, fun q hq => by omega⟩
  rintro j n1 H1 ⟨g1, g2, g3, g4⟩
  have hs1 : SlR ⟨Try.prog, w0⟩ H1 D 3 Req.cells v xs := hs.frame (fun i hi => g3 i (hD i hi))
  simp (disch := omega) [-hset_if, -Bool.decide_and, hset_ne]
  refine cif_dec (fun h => ?_) (fun h => ?_)
  · have hx : at_ xs (j : Int) ∈ xs := by rw [at_nat h]; exact List.getElem_mem _
    simp (disch := omega) [-hset_if, -Bool.decide_and, hset_ne, hs1.ix elemS25, hs1.load0 shp96, hent]
    have hc := hg _ hx n1 H1
    refine hc _ g2 g3 ?_
    intro n2 H2 e1 e2
    simp (disch := omega) [-hset_if, -Bool.decide_and, hset_ne]
    refine cif_var (fun hp => ?_) (fun hp => ?_)
    · simp (disch := omega) [-hset_if, -Bool.decide_and, hset_ne]
      refine Fin_id ?_
      rw [fidx_found h hp g4] at hk
      exact hk _ _ (by omega) (fun i hi => by rw [e2 i (by omega), g3 i hi])
    · simp (disch := omega) [-hset_if, -Bool.decide_and, hset_ne]
      refine Next.mk (j + 1) (by first | omega | (simp only; omega)) (by simp (disch := omega) [-hset_if, -Bool.decide_and, hset_ne]) ⟨by omega, by omega, fun i hi => by rw [e2 i (by omega), g3 i hi], fun q hq => ?_⟩
      by_cases e : q < j
      · exact g4 q e
      · obtain rfl : q = j := by omega
        exact hp
  · simp (disch := omega) [-hset_if, -Bool.decide_and, hset_ne]
    refine Fin_id ?_
    rw [fidx_none (fun q hq => g4 q (by omega))] at hk
    exact hk _ _ g2 g3
theorem containsReq_ok {v : Value} {D : Nat → Prop} {xs : List Req} {g : FuncId} {caps : Array Value} {p : Req → Bool} (hs : SlR ⟨Try.prog, w0⟩ H D 3 Req.cells v xs) (hD : ∀ i, D i → i < n)
    (hg : ∀ r ∈ xs, ∀ n' H' (K' : Value → Nat → Heap → Prop), n ≤ n' → (∀ i, i < n → H' i = H i) → (∀ n'' H'', n' ≤ n'' → (∀ i, i < n' → H'' i = H' i) → K' (.bool (p r)) n'' H'') → ACall ⟨Try.prog, w0⟩ g ((.agg r.cells.toArray) :: caps.toList) K' n' H')
    (hb : xs.length < 9223372036854775807) (hent : entB Try.prog g = true) (hk : ∀ n' H', n ≤ n' → (∀ i, i < n → H' i = H i) → K (.bool (xs.any p)) n' H') : ACall ⟨Try.prog, w0⟩ 68 [v, .func (.func g) #[] caps] K n H := by
  refine ACall.run Try.func68 rfl Try.ntmps68 Try.results68 (by simp) fun J0 => ?_
  simp (disch := omega) [-hset_if, -Bool.decide_and, hset_ne]
  refine indexReq_ok hs hD hg hb hent ?_
  intro n1 H1 e1 e2
  simp (disch := omega) [-hset_if, -Bool.decide_and, hset_ne]
  refine Fin_id ?_
  rw [fidx_any]
  exact hk _ _ e1 e2
end Go.Aw.S15
