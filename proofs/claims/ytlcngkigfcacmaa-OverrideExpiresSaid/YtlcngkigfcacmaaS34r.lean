/-
  Chapter 34: Clone, DeleteFunc, Expire.
-/
import Derived.Test.YtlcngkigfcacmaaS34b
import Derived.Test.YtlcngkigfcacmaaS34c
import Derived.Test.YtlcngkigfcacmaaAw17
namespace Go.Aw.S34
open Go.RowKit Go.Proofs Go.Aw.Tab
set_option linter.unusedSimpArgs false
set_option linter.unusedVariables false
set_option maxRecDepth 10000
set_option maxHeartbeats 1000000
set_option pp.deepTerms false
set_option pp.deepTerms.threshold 4
set_option pp.maxSteps 1500
attribute [local simp] Hold.cells
variable {w0 : World} {n : Nat} {H : Heap} {K : Value → Nat → Heap → Prop} {s : ByteArray}
theorem fidx_spec {α : Type} [Inhabited α] {p : α → Bool} : ∀ {xs : List α} {j : Nat}, fidx p xs = (j : Int) → j < xs.length ∧ p (at_ xs (j : Int)) = true ∧ ∀ q, q < j → p (at_ xs (q : Int)) = false
  | [], j, h => by simp [fidx] at h
  | x :: r, j, h => by
    have e0 : at_ (x :: r) ((0 : Nat) : Int) = x := by simp [at_]
    have es : ∀ q : Nat, at_ (x :: r) ((q + 1 : Nat) : Int) = at_ r (q : Int) := fun q => by simp [at_]
    simp only [fidx] at h
    split at h
    · rename_i hp
      obtain rfl : j = 0 := by omega
      exact ⟨by simp, by rw [e0]; exact hp, fun q hq => by omega⟩
    · rename_i hp
      split at h
      · omega
      · have hge := fidx_ge p r
        obtain ⟨i, rfl⟩ : ∃ i, j = i + 1 := ⟨j - 1, by omega⟩
        obtain ⟨h1, h2, h3⟩ := fidx_spec (p := p) (xs := r) (j := i) (by omega)
        refine ⟨by simp; omega, by rw [es]; exact h2, fun q hq => ?_⟩
        cases q with
        | zero => rw [e0]; simpa using hp
        | succ q => rw [es]; exact h3 q (by omega)
/-- slices.Clone of Hold. -/
theorem cloneHold_ok {v : Value} {D : Nat → Prop} {xs : List Hold} (hs : SlR ⟨Try.prog, w0⟩ H D 6 Hold.cells v xs) (hD : ∀ i, D i → i < n) (hone : ∀ x ∈ xs, oneAll (Hold.cells x) = true)
    (hb : xs.length * 56 ≤ 140737488355328) (hl : xs.length ≤ 140737488355328)
    (hk : ∀ v' n' H' E, n ≤ n' → (∀ i, i < n → H' i = H i) → (∀ i, E i → n ≤ i ∧ i < n') → OwR ⟨Try.prog, w0⟩ H' n' E 43 6 Hold.cells v' xs → K v' n' H') : ACall ⟨Try.prog, w0⟩ 41 [v] K n H := by
  refine ACall.run Try.func41 rfl Try.ntmps41 Try.results41 (by simp) fun J0 => ?_
  simp (disch := omega) [-hset_if, -Bool.decide_and, hset_ne, hs.eqNil tk22]
  refine cif_var (fun hv => ?_) (fun hv => ?_)
  · obtain ⟨rfl, rfl⟩ := hs.of_nil hv
    simp (disch := omega) [-hset_if, -Bool.decide_and, hset_ne]
    refine Fin_id ?_
    exact hk _ n H (fun _ => False) (Nat.le_refl _) (fun _ _ => rfl) (fun _ h => h.elim) (OwR.nil (by omega))
  · simp (disch := omega) [-hset_if, -Bool.decide_and, hset_ne]
    have ho := OwR.empty (C := ⟨Try.prog, w0⟩) (f := Hold.cells) (T := 43) (sz := 6) (n := n + 1) (j := n) (H := hset n (.cells [] 43 6) H) (by omega) (by omega) (hset_same _ _ _)
    have hs1 : SlR ⟨Try.prog, w0⟩ (hset n (.cells [] 43 6) H) D 6 Hold.cells v xs := hs.frame (fun i hi => hset_ne (by have := hD i hi; omega) _ _)
    refine ho.appendS elemS22 zero43 (by simp) hs1 hone (by simpa using hb) (by simpa using hl) ?_
    intro v' n' H' D' h1 h2 h3 h4 h5
    simp (disch := omega) [-hset_if, -Bool.decide_and, hset_ne]
    refine Fin_id ?_
    refine hk v' n' H' D' (by omega) (fun i hi => by rw [h3 i (by omega) (by omega), hset_ne (by omega)]) (fun i hi => ⟨?_, h5.lt i hi⟩) (by simpa using h5)
    rcases h4 i hi with h | h <;> omega
/-- slices.DeleteFunc of Hold, of a slice of the program's own. -/
theorem deleteHold_ok {v : Value} {D : Nat → Prop} {xs : List Hold} {g : FuncId} {caps : Array Value} {p : Hold → Bool} (hs : OwR ⟨Try.prog, w0⟩ H n D 43 6 Hold.cells v xs)
    (hg : ∀ r ∈ xs, ∀ n' H' (K' : Value → Nat → Heap → Prop), n ≤ n' → (∀ i, i < n → ¬ D i → H' i = H i) → (∀ n'' H'', n' ≤ n'' → (∀ i, i < n' → H'' i = H' i) → K' (.bool (p r)) n'' H'') → ACall ⟨Try.prog, w0⟩ g ((.agg r.cells.toArray) :: caps.toList) K' n' H')
    (hb : xs.length < 4611686018427387904) (hent : entB Try.prog g = true)
    (hk : ∀ v' n' H', n ≤ n' → (∀ i, i < n → ¬ D i → H' i = H i) → OwR ⟨Try.prog, w0⟩ H' n' D 43 6 Hold.cells v' (xs.filter fun x => !p x) → K v' n' H') : ACall ⟨Try.prog, w0⟩ 40 [v, .func (.func g) #[] caps] K n H := by
  have hDn : ∀ i, D i → i < n := hs.lt
  refine ACall.run Try.func40 rfl Try.ntmps40 Try.results40 (by simp) fun J0 => ?_
  simp (disch := omega) [-hset_if, -Bool.decide_and, hset_ne]
  refine indexHold_ok (p := p) hs.sl hDn (fun r hr n' H' K' h1 h2 h3 => hg r hr n' H' K' h1 (fun i hi _ => h2 i hi) h3) (by omega) hent ?_
  intro n1 H1 e1 e2
  have hs1 : OwR ⟨Try.prog, w0⟩ H1 n1 D 43 6 Hold.cells v xs := hs.frame e1 (fun i hi => e2 i (hDn i hi))
  simp (disch := omega) [-hset_if, -Bool.decide_and, hset_ne]
  refine cif_beq (fun hi => ?_) (fun hi => ?_)
  · simp (disch := omega) [-hset_if, -Bool.decide_and, hset_ne]
    refine Fin_id ?_
    have hn : xs.filter (fun x => !p x) = xs := by
      have h1 : (0 : Int) ≤ fidx p xs ↔ xs.any p = true := by rw [← fidx_any, decide_eq_true_iff]
      rw [List.filter_eq_self]
      intro x hx
      rw [Bool.not_eq_true']
      cases hp : p x with
      | false => rfl
      | true =>
        have := h1.2 (List.any_eq_true.2 ⟨x, hx, hp⟩)
        omega
    refine hk v n1 H1 e1 (fun i h _ => e2 i h) ?_
    rw [hn]; exact hs1
  have hge := fidx_ge p xs
  obtain ⟨j0, hj0⟩ : ∃ j0 : Nat, fidx p xs = (j0 : Int) := ⟨(fidx p xs).toNat, by omega⟩
  obtain ⟨hjl, hjp, hjn⟩ := fidx_spec hj0
  rw [hj0]
  simp (disch := omega) [-hset_if, -Bool.decide_and, hset_ne]
  refine AW.while (σ := Nat × Nat × List Hold) (fun s => xs.length - s.1) (fun s => [(0, v), (1, .func (.func g) #[] caps), (5, .int .i64 (s.2.1 : Int)), (6, .int .i64 (s.1 : Int))])
    (fun s n2 H2 => n ≤ n2 ∧ (∀ i, i < n → ¬ D i → H2 i = H i) ∧ OwR ⟨Try.prog, w0⟩ H2 n2 D 43 6 Hold.cells v s.2.2 ∧ s.2.2.length = xs.length ∧ s.1 ≤ xs.length ∧ s.2.1 < s.1 ∧ s.2.2.drop s.1 = xs.drop s.1 ∧ s.2.2.take s.2.1 = (xs.take s.1).filter (fun x => !p x)) (j0 + 1, j0, xs) ?_ ?_ ?_
  · simp (disch := omega) [-hset_if, -Bool.decide_and, hset_ne]
  · refine ⟨e1, fun i h _ => e2 i h, hs1, rfl, by dsimp only; omega, by dsimp only; omega, rfl, ?_⟩
    dsimp only
    rw [filter_take hjl, hjp]
    simp only [Bool.not_true, Bool.false_eq_true, if_false, List.append_nil]
    symm
    rw [List.filter_eq_self]
    intro x hx
    obtain ⟨q, hq, rfl⟩ := List.getElem_of_mem hx
    have hq' : q < j0 := by simp at hq; omega
    have := hjn q hq'
    rw [at_nat (by omega)] at this
    simp [this]
  rintro ⟨j, b, ys⟩ n2 H2 ⟨g1, g2, g3, g4, g5, g6, g7, g8⟩
  dsimp only at g3 g4 g5 g6 g7 g8 ⊢
  have hl := g3.sl.lenK
  rw [g4] at hl
  simp (disch := omega) [-hset_if, -Bool.decide_and, hset_ne, hl]
  refine cif_dec (fun h => ?_) (fun h => ?_)
  · have hjl : j < xs.length := by omega
    have hjy : j < ys.length := by omega
    have hat : at_ ys (j : Int) = at_ xs (j : Int) := by
      have h1 := congrArg (fun l => l[0]?) g7
      simp only [List.getElem?_drop, Nat.add_zero] at h1
      rw [at_nat hjy, at_nat hjl]
      simpa [hjy, hjl] using h1
    have hx : at_ xs (j : Int) ∈ xs := at_mem hjl
    simp (disch := omega) [-hset_if, -Bool.decide_and, hset_ne, g3.sl.ix elemS22, g3.sl.load0 shp43, hat, hjy, hent]
    have hD2 := fun i hi => g3.lt i hi
    refine hg _ hx _ _ _ (by omega) (fun i hi hd => by rw [hset_ne (by omega)]; exact g2 i hi hd) ?_
    intro n3 H3 e3 e4
    have hn2 := e4 n2 (by omega)
    simp (disch := omega) [-hset_if, -Bool.decide_and, hset_ne] at hn2
    have g9 : OwR ⟨Try.prog, w0⟩ H3 n3 D 43 6 Hold.cells v ys := g3.frame (by omega) (fun i hi => by have := hD2 i hi; rw [e4 i (by omega), hset_ne (by omega)])
    have hfr : ∀ i, i < n → ¬ D i → H3 i = H i := fun i hi hd => by rw [e4 i (by omega), hset_ne (by omega)]; exact g2 i hi hd
    simp (disch := omega) [-hset_if, -Bool.decide_and, hset_ne]
    refine cif_var (fun hp => ?_) (fun hp => ?_)
    · simp (disch := omega) [-hset_if, -Bool.decide_and, hset_ne, hp]
      refine Next.mk (j + 1, b, ys) (by first | omega | (dsimp only; omega)) (by simp (disch := omega) [-hset_if, -Bool.decide_and, hset_ne]) ⟨by omega, hfr, g9, g4, (by first | omega | (dsimp only; omega)), (by first | omega | (dsimp only; omega)), ?_, ?_⟩
      · dsimp only
        rw [← List.drop_drop, g7, List.drop_drop]
      · dsimp only
        rw [filter_take hjl, hp, g8]; simp
    · have hby : b < ys.length := by omega
      simp (disch := omega) [-hset_if, -Bool.decide_and, hset_ne, hp, hn2, g9.sl.ix elemS22, hby]
      refine g9.store0 shp43 (by omega) (by omega) (at_ xs (j : Int)) (by simp) (by simp) (by simp) ?_
      intro H4 f1 f2
      simp (disch := omega) [-hset_if, -Bool.decide_and, hset_ne]
      refine Next.mk (j + 1, b + 1, ys.set b (at_ xs (j : Int))) (by first | omega | (dsimp only; omega)) (by simp (disch := omega) [-hset_if, -Bool.decide_and, hset_ne]) ⟨by omega, fun i hi hd => by rw [f1 i hd]; exact hfr i hi hd, by simpa using f2, (by dsimp only; rw [List.length_set]; exact g4), (by first | omega | (dsimp only; omega)), (by first | omega | (dsimp only; omega)), ?_, ?_⟩
      · dsimp only
        rw [List.drop_set_of_lt (by omega), ← List.drop_drop, g7, List.drop_drop]
      · dsimp only
        rw [filter_take hjl, hp, ← g8, List.take_succ_eq_append_getElem (by simpa using hby)]
        simp [List.take_set_of_le]
  · have hje : j = xs.length := by omega
    have hby : b ≤ ys.length := by omega
    simp (disch := omega) [-hset_if, -Bool.decide_and, hset_ne]
    refine g3.tail tk22 elemS22 hby ?_
    intro v' hv'
    simp (disch := omega) [-hset_if, -Bool.decide_and, hset_ne]
    refine g3.clear tk22 elemS22 zero43 (by simp) (by simp) hby hv' ?_
    intro H3 f1 f2
    simp (disch := omega) [-hset_if, -Bool.decide_and, hset_ne, g3.headEq tk22 elemS22 hby]
    refine Fin_id ?_
    refine hk _ _ _ g1 (fun i hi hd => by rw [f1 i hd]; exact g2 i hi hd) ?_
    rw [g8, hje, List.take_length] at f2
    exact f2
end Go.Aw.S34
