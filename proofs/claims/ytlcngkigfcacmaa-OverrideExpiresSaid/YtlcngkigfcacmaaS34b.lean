/-
  Chapter 34: IndexFunc, ContainsFunc; every hold; Check.
-/
import Derived.Test.YtlcngkigfcacmaaS34a
namespace Go.Aw.S34
open Go.RowKit Go.Proofs Go.Aw.Tab
set_option linter.unusedSimpArgs false
set_option linter.unusedVariables false
set_option maxRecDepth 10000
set_option maxHeartbeats 1000000
set_option pp.deepTerms false
set_option pp.deepTerms.threshold 4
set_option pp.maxSteps 1500
attribute [local simp] Hold.cells
variable {w0 : World} {n : Nat} {H : Heap} {K : Value → Nat → Heap → Prop} {s : ByteArray}
/-- slices.IndexFunc and ContainsFunc over Hold. -/
theorem indexHold_ok {v : Value} {D : Nat → Prop} {xs : List Hold} {g : FuncId} {caps : Array Value} {p : Hold → Bool} (hs : SlR ⟨Try.prog, w0⟩ H D 6 Hold.cells v xs) (hD : ∀ i, D i → i < n)
    (hg : ∀ r ∈ xs, ∀ n' H' (K' : Value → Nat → Heap → Prop), n ≤ n' → (∀ i, i < n → H' i = H i) → (∀ n'' H'', n' ≤ n'' → (∀ i, i < n' → H'' i = H' i) → K' (.bool (p r)) n'' H'') → ACall ⟨Try.prog, w0⟩ g ((.agg r.cells.toArray) :: caps.toList) K' n' H')
    (hb : xs.length < 9223372036854775807) (hent : entB Try.prog g = true) (hk : ∀ n' H', n ≤ n' → (∀ i, i < n → H' i = H i) → K (.int .i64 (fidx p xs)) n' H') : ACall ⟨Try.prog, w0⟩ 47 [v, .func (.func g) #[] caps] K n H := by
  refine ACall.run Try.func47 rfl Try.ntmps47 Try.results47 (by simp) fun J0 => ?_
  simp (disch := omega) [-hset_if, -Bool.decide_and, hset_ne, hs.lenK]
  refine AW.while (σ := Nat) (fun j => xs.length - j) (fun j => [(0, v), (1, .func (.func g) #[] caps), (7, .int .i64 xs.length), (8, .int .i64 j)]) (fun j n1 H1 => j ≤ xs.length ∧ n ≤ n1 ∧ (∀ i, i < n → H1 i = H i) ∧ ∀ q, q < j → p (at_ xs (q : Int)) = false) 0 ?_ ?_ ?_
  · simp (disch := omega) [-hset_if, -Bool.decide_and, hset_ne]
  · exact ⟨by omega, Nat.le_refl _, fun _ _ => rfl, fun q hq => by omega⟩
  rintro j n1 H1 ⟨g1, g2, g3, g4⟩
  have hs1 : SlR ⟨Try.prog, w0⟩ H1 D 6 Hold.cells v xs := hs.frame (fun i hi => g3 i (hD i hi))
  simp (disch := omega) [-hset_if, -Bool.decide_and, hset_ne]
  refine cif_dec (fun h => ?_) (fun h => ?_)
  · have hx : at_ xs (j : Int) ∈ xs := by rw [at_nat h]; exact List.getElem_mem _
    simp (disch := omega) [-hset_if, -Bool.decide_and, hset_ne, hs1.ix elemS22, hs1.load0 shp43, hent]
    have hc := hg _ hx n1 H1
    refine hc _ g2 g3 ?_
    intro n2 H2 e1 e2
    simp (disch := omega) [-hset_if, -Bool.decide_and, hset_ne]
    refine cif_var (fun hp => ?_) (fun hp => ?_)
    · simp (disch := omega) [-hset_if, -Bool.decide_and, hset_ne]
      refine Fin_id ?_
      rw [fidx_found h hp g4] at hk
      exact hk _ _ (by omega) (fun i hi => by rw [e2 i (by omega), g3 i hi])
    · simp (disch := omega) [-hset_if, -Bool.decide_and, hset_ne]
      refine Next.mk (j + 1) (by first | omega | (simp only; omega)) (by simp (disch := omega) [-hset_if, -Bool.decide_and, hset_ne]) ⟨by omega, by omega, fun i hi => by rw [e2 i (by omega), g3 i hi], fun q hq => ?_⟩
      by_cases e : q < j
      · exact g4 q e
      · obtain rfl : q = j := by omega
        exact hp
  · simp (disch := omega) [-hset_if, -Bool.decide_and, hset_ne]
    refine Fin_id ?_
    rw [fidx_none (fun q hq => g4 q (by omega))] at hk
    exact hk _ _ g2 g3
theorem containsHold_ok {v : Value} {D : Nat → Prop} {xs : List Hold} {g : FuncId} {caps : Array Value} {p : Hold → Bool} (hs : SlR ⟨Try.prog, w0⟩ H D 6 Hold.cells v xs) (hD : ∀ i, D i → i < n)
    (hg : ∀ r ∈ xs, ∀ n' H' (K' : Value → Nat → Heap → Prop), n ≤ n' → (∀ i, i < n → H' i = H i) → (∀ n'' H'', n' ≤ n'' → (∀ i, i < n' → H'' i = H' i) → K' (.bool (p r)) n'' H'') → ACall ⟨Try.prog, w0⟩ g ((.agg r.cells.toArray) :: caps.toList) K' n' H')
    (hb : xs.length < 9223372036854775807) (hent : entB Try.prog g = true) (hk : ∀ n' H', n ≤ n' → (∀ i, i < n → H' i = H i) → K (.bool (xs.any p)) n' H') : ACall ⟨Try.prog, w0⟩ 33 [v, .func (.func g) #[] caps] K n H := by
  refine ACall.run Try.func33 rfl Try.ntmps33 Try.results33 (by simp) fun J0 => ?_
  simp (disch := omega) [-hset_if, -Bool.decide_and, hset_ne]
  refine indexHold_ok hs hD hg hb hent ?_
  intro n1 H1 e1 e2
  simp (disch := omega) [-hset_if, -Bool.decide_and, hset_ne]
  refine Fin_id ?_
  rw [fidx_any]
  exact hk _ _ e1 e2
theorem containsHold_p {v : Value} {D : Nat → Prop} {xs : List Hold} {g : FuncId} {caps : Array Value} {p : Hold → Bool} (hs : SlR ⟨Try.prog, w0⟩ H D 6 Hold.cells v xs) (hD : ∀ i, D i → i < n)
    (hg : ∀ r ∈ xs, ∀ n' H' (K' : Value → Nat → Heap → Prop), n ≤ n' → (∀ i, i < n → H' i = H i) → K' (.bool (p r)) n' H' → ACall ⟨Try.prog, w0⟩ g (.agg r.cells.toArray :: caps.toList) K' n' H')
    (hb : xs.length < 9223372036854775807) (hent : entB Try.prog g = true) (hk : K (.bool (xs.any p)) n H) : ACall ⟨Try.prog, w0⟩ 33 [v, .func (.func g) #[] caps] K n H :=
  ACall.res (fun K' h => containsHold_ok hs hD (fun r hr n' H' K2 h1 h2 h3 => hg r hr n' H' K2 h1 h2 (h3 n' H' (Nat.le_refl _) (fun _ _ => rfl))) hb hent h) (by simp) hk
theorem not_all {α : Type} (l : List α) (p : α → Bool) : (!l.any fun x => !p x) = l.all p := by
  induction l with
  | nil => rfl
  | cons x r ih => simp only [List.any_cons, List.all_cons, Bool.not_or, Bool.not_not, ih]
theorem every_ok {v : Value} {D : Nat → Prop} {xs : List Hold} {g : FuncId} {p : Hold → Bool} {m : Nat} (hs : SlR ⟨Try.prog, w0⟩ H D 6 Hold.cells v xs) (hD : ∀ i, D i → i < n) (hm : m < n) (hH : H m = .cells [v] 22 1)
    (hg : ∀ r ∈ xs, ∀ n' H' (K' : Value → Nat → Heap → Prop), K' (.bool (p r)) n' H' → ACall ⟨Try.prog, w0⟩ g [.agg r.cells.toArray] K' n' H')
    (hb : xs.length < 9223372036854775807) (hent : entB Try.prog g = true) (hk : K (.bool (xs.all p)) n H) : ACall ⟨Try.prog, w0⟩ 32 [.func (.func g) #[] #[], .pointer (some ⟨new m, 0, none⟩)] K n H := by
  refine ACall.res (fun K' h => ?_) (by simp) hk
  refine ACall.run Try.func32 rfl Try.ntmps32 Try.results32 (by simp) fun J0 => ?_
  simp (disch := omega) [-hset_if, -Bool.decide_and, hset_ne, hH]
  refine containsHold_p (p := fun x => !p x) (hs.frame (fun i hi => by have := hD i hi; simp (disch := omega) [-hset_if, -Bool.decide_and, hset_ne])) (fun i hi => by have := hD i hi; omega) ?_ hb (by kernel_rfl) ?_
  · intro r hr n' H' K' h1 h2 hk
    refine ACall.res (fun K' h => ?_) (by simp) hk
    have h3 := h2 n (by omega)
    simp (disch := omega) [-hset_if, -Bool.decide_and, hset_ne] at h3
    refine ACall.run Try.func34 rfl Try.ntmps34 Try.results34 (by simp) fun J0 => ?_
    simp (disch := omega) [-hset_if, -Bool.decide_and, hset_ne, h3, hent]
    refine hg r hr _ _ _ ?_
    simp (disch := omega) [-hset_if, -Bool.decide_and, hset_ne]
    exact h.fin rfl (by omega) (fun i hi => by simp (disch := omega) only [hset_ne])
  · simp (disch := omega) [-hset_if, -Bool.decide_and, hset_ne]
    refine h.fin ?_ (by omega) (fun i hi => by simp (disch := omega) only [hset_ne])
    rw [not_all]
def rngB (h : Hold) : Bool := decide (0 ≤ h.fr ∧ h.fr < h.to ∧ h.to ≤ 6311433600 ∧ 0 ≤ h.seq ∧ h.seq ≤ 1000000000)
def kindB (h : Hold) : Bool := decide (1 ≤ h.kind ∧ h.kind ≤ 3)
theorem clName_ok (r : Hold) (hk : K (.bool (nmB r.nm)) n H) : ACall ⟨Try.prog, w0⟩ 35 [.agg r.cells.toArray] K n H := by
  refine ACall.res (fun K' h => ?_) (by simp) hk
  refine ACall.run Try.func35 rfl Try.ntmps35 Try.results35 (by simp) fun J0 => ?_
  simp (disch := omega) [-hset_if, -Bool.decide_and, hset_ne]
  refine name_ok ?_
  simp (disch := omega) [-hset_if, -Bool.decide_and, hset_ne]
  exact h.fin rfl (by omega) (fun i hi => by simp (disch := omega) only [hset_ne])
theorem clRange_ok (r : Hold) (hk : K (.bool (rngB r)) n H) : ACall ⟨Try.prog, w0⟩ 37 [.agg r.cells.toArray] K n H := by
  refine ACall.res (fun K' h => ?_) (by simp) hk
  refine ACall.run Try.func37 rfl Try.ntmps37 Try.results37 (by simp) fun J0 => ?_
  simp (disch := omega) [-hset_if, -Bool.decide_and, hset_ne]
  repeat' (first | (with_reducible intro _; first | (exfalso; omega) | (simp (disch := omega) [-hset_if, -Bool.decide_and, hset_ne]) | skip) | (with_reducible refine And.intro ?_ ?_; omega) | with_reducible apply cif_dec | with_reducible apply cif_beq | with_reducible apply cif_bne | with_reducible apply cif_var | with_reducible apply gif_dec | with_reducible apply gif_ndec | with_reducible apply gif_beq | with_reducible apply gif_bne | with_reducible apply gif_nbeq | with_reducible apply gif_var)
  all_goals refine h.fin ?_ (by omega) (fun i hi => by simp (disch := omega) only [hset_ne])
  all_goals congr 1
  all_goals rw [Bool.eq_iff_iff]
  all_goals simp [rngB]
  all_goals omega
theorem clKind_ok (r : Hold) (hk : K (.bool (kindB r)) n H) : ACall ⟨Try.prog, w0⟩ 38 [.agg r.cells.toArray] K n H := by
  refine ACall.res (fun K' h => ?_) (by simp) hk
  refine ACall.run Try.func38 rfl Try.ntmps38 Try.results38 (by simp) fun J0 => ?_
  simp (disch := omega) [-hset_if, -Bool.decide_and, hset_ne]
  repeat' (first | (with_reducible intro _; first | (exfalso; omega) | (simp (disch := omega) [-hset_if, -Bool.decide_and, hset_ne]) | skip) | (with_reducible refine And.intro ?_ ?_; omega) | with_reducible apply cif_dec | with_reducible apply cif_beq | with_reducible apply cif_bne | with_reducible apply cif_var | with_reducible apply gif_dec | with_reducible apply gif_ndec | with_reducible apply gif_beq | with_reducible apply gif_bne | with_reducible apply gif_nbeq | with_reducible apply gif_var)
  all_goals refine h.fin ?_ (by omega) (fun i hi => by simp (disch := omega) only [hset_ne])
  all_goals congr 1
  all_goals rw [Bool.eq_iff_iff]
  all_goals simp [kindB]
  all_goals omega
theorem clSeq_ok (r x : Hold) {m : Nat} (hm : m < n) (hH : H m = .cells x.cells 43 1) (hk : K (.bool (decide (r.seq = x.seq))) n H) : ACall ⟨Try.prog, w0⟩ 39 [.agg r.cells.toArray, .pointer (some ⟨new m, 0, none⟩)] K n H := by
  refine ACall.res (fun K' h => ?_) (by simp) hk
  refine ACall.run Try.func39 rfl Try.ntmps39 Try.results39 (by simp) fun J0 => ?_
  simp (disch := omega) [-hset_if, -Bool.decide_and, hset_ne, hH]
  exact h.fin rfl (by omega) (fun i hi => by simp (disch := omega) only [hset_ne])
theorem clEnd_ok (r : Hold) {t : Int} {m : Nat} (hm : m < n) (hH : H m = .cells [.int .i64 t] 3 1) (hk : K (.bool (decide (r.to ≤ t))) n H) : ACall ⟨Try.prog, w0⟩ 42 [.agg r.cells.toArray, .pointer (some ⟨new m, 0, none⟩)] K n H := by
  refine ACall.res (fun K' h => ?_) (by simp) hk
  refine ACall.run Try.func42 rfl Try.ntmps42 Try.results42 (by simp) fun J0 => ?_
  simp (disch := omega) [-hset_if, -Bool.decide_and, hset_ne, hH]
  exact h.fin rfl (by omega) (fun i hi => by simp (disch := omega) only [hset_ne])
theorem clAdd_ok (r x : Hold) {m : Nat} (hm : m < n) (hH : H m = .cells x.cells 43 1) (hk : K (.bool (decide (r.nm = x.nm))) n H) : ACall ⟨Try.prog, w0⟩ 43 [.agg r.cells.toArray, .pointer (some ⟨new m, 0, none⟩)] K n H := by
  refine ACall.res (fun K' h => ?_) (by simp) hk
  refine ACall.run Try.func43 rfl Try.ntmps43 Try.results43 (by simp) fun J0 => ?_
  simp (disch := omega) [-hset_if, -Bool.decide_and, hset_ne, hH]
  exact h.fin rfl (by omega) (fun i hi => by simp (disch := omega) only [hset_ne])
theorem clRem_ok (r : Hold) {t : ByteArray} {m : Nat} (hm : m < n) (hH : H m = .cells [.string t] 9 1) (hk : K (.bool (decide (r.nm = t))) n H) : ACall ⟨Try.prog, w0⟩ 45 [.agg r.cells.toArray, .pointer (some ⟨new m, 0, none⟩)] K n H := by
  refine ACall.res (fun K' h => ?_) (by simp) hk
  refine ACall.run Try.func45 rfl Try.ntmps45 Try.results45 (by simp) fun J0 => ?_
  simp (disch := omega) [-hset_if, -Bool.decide_and, hset_ne, hH]
  exact h.fin rfl (by omega) (fun i hi => by simp (disch := omega) only [hset_ne])
end Go.Aw.S34
