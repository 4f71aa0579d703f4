/-
  Chapter 56: Check.
-/
import Derived.Test.YtmppccnafhckoaaS56a
namespace Go.Aw.S56
open Go.RowKit Go.Proofs Go.Aw.Tab
set_option linter.unusedSimpArgs false
set_option linter.unusedVariables false
set_option maxRecDepth 10000
set_option maxHeartbeats 1000000
set_option pp.deepTerms false
set_option pp.deepTerms.threshold 4
set_option pp.maxSteps 1500
attribute [local simp] Load.cells Sta.cells intC
variable {w0 : World} {n : Nat} {H : Heap} {K : Value → Nat → Heap → Prop} {s : ByteArray} {pv : Value} {D : Nat → Prop} {l m : List Load} {x : Load}
/-- slices.IndexFunc and ContainsFunc over Load. -/
theorem indexLoad_ok {v : Value} {D : Nat → Prop} {xs : List Load} {g : FuncId} {caps : Array Value} {p : Load → Bool} (hs : SlR ⟨Try.prog, w0⟩ H D 5 Load.cells v xs) (hD : ∀ i, D i → i < n)
    (hg : ∀ r ∈ xs, ∀ n' H' (K' : Value → Nat → Heap → Prop), n ≤ n' → (∀ i, i < n → H' i = H i) → (∀ n'' H'', n' ≤ n'' → (∀ i, i < n' → H'' i = H' i) → K' (.bool (p r)) n'' H'') → ACall ⟨Try.prog, w0⟩ g ((.agg r.cells.toArray) :: caps.toList) K' n' H')
    (hb : xs.length < 9223372036854775807) (hent : entB Try.prog g = true) (hk : ∀ n' H', n ≤ n' → (∀ i, i < n → H' i = H i) → K (.int .i64 (fidx p xs)) n' H') : ACall ⟨Try.prog, w0⟩ 62 [v, .func (.func g) #[] caps] K n H := by
  refine ACall.run Try.func62 rfl Try.ntmps62 Try.results62 (by simp) fun J0 => ?_
  simp (disch := omega) [-hset_if, -Bool.decide_and, hset_ne, hs.lenK]
  refine AW.while (σ := Nat) (fun j => xs.length - j) (fun j => [(0, v), (1, .func (.func g) #[] caps), (7, .int .i64 xs.length), (8, .int .i64 j)]) (fun j n1 H1 => j ≤ xs.length ∧ n ≤ n1 ∧ (∀ i, i < n → H1 i = H i) ∧ ∀ q, q < j → p (at_ xs (q : Int)) = false) 0 ?_ ?_ ?_
  · simp (disch := omega) [-hset_if, -Bool.decide_and, hset_ne]
  · exact ⟨by omega, Nat.le_refl _, fun _ _ => rfl, fun q hq => by omega⟩
  rintro j n1 H1 ⟨g1, g2, g3, g4⟩
  have hs1 : SlR ⟨Try.prog, w0⟩ H1 D 5 Load.cells v xs := hs.frame (fun i hi => g3 i (hD i hi))
  simp (disch := omega) [-hset_if, -Bool.decide_and, hset_ne]
  refine cif_dec (fun h => ?_) (fun h => ?_)
  · have hx : at_ xs (j : Int) ∈ xs := by rw [at_nat h]; exact List.getElem_mem _
    simp (disch := omega) [-hset_if, -Bool.decide_and, hset_ne, hs1.ix elemS22, hs1.load0 shp42, hent]
    have hc := hg _ hx n1 H1
    refine hc _ g2 g3 ?_
    intro n2 H2 e1 e2
    simp (disch := omega) [-hset_if, -Bool.decide_and, hset_ne]
    refine cif_var (fun hp => ?_) (fun hp => ?_)
    · simp (disch := omega) [-hset_if, -Bool.decide_and, hset_ne]
      refine Fin_id ?_
      rw [fidx_found h hp g4] at hk
      exact hk _ _ (by omega) (fun i hi => by rw [e2 i (by omega), g3 i hi])
    · simp (disch := omega) [-hset_if, -Bool.decide_and, hset_ne]
      refine Next.mk (j + 1) (by first | omega | (simp only; omega)) (by simp (disch := omega) [-hset_if, -Bool.decide_and, hset_ne]) ⟨by omega, by omega, fun i hi => by rw [e2 i (by omega), g3 i hi], fun q hq => ?_⟩
      by_cases e : q < j
      · exact g4 q e
      · obtain rfl : q = j := by omega
        exact hp
  · simp (disch := omega) [-hset_if, -Bool.decide_and, hset_ne]
    refine Fin_id ?_
    rw [fidx_none (fun q hq => g4 q (by omega))] at hk
    exact hk _ _ g2 g3
theorem containsLoad_ok {v : Value} {D : Nat → Prop} {xs : List Load} {g : FuncId} {caps : Array Value} {p : Load → Bool} (hs : SlR ⟨Try.prog, w0⟩ H D 5 Load.cells v xs) (hD : ∀ i, D i → i < n)
    (hg : ∀ r ∈ xs, ∀ n' H' (K' : Value → Nat → Heap → Prop), n ≤ n' → (∀ i, i < n → H' i = H i) → (∀ n'' H'', n' ≤ n'' → (∀ i, i < n' → H'' i = H' i) → K' (.bool (p r)) n'' H'') → ACall ⟨Try.prog, w0⟩ g ((.agg r.cells.toArray) :: caps.toList) K' n' H')
    (hb : xs.length < 9223372036854775807) (hent : entB Try.prog g = true) (hk : ∀ n' H', n ≤ n' → (∀ i, i < n → H' i = H i) → K (.bool (xs.any p)) n' H') : ACall ⟨Try.prog, w0⟩ 38 [v, .func (.func g) #[] caps] K n H := by
  refine ACall.run Try.func38 rfl Try.ntmps38 Try.results38 (by simp) fun J0 => ?_
  simp (disch := omega) [-hset_if, -Bool.decide_and, hset_ne]
  refine indexLoad_ok hs hD hg hb hent ?_
  intro n1 H1 e1 e2
  simp (disch := omega) [-hset_if, -Bool.decide_and, hset_ne]
  refine Fin_id ?_
  rw [fidx_any]
  exact hk _ _ e1 e2
theorem containsLoad_p {v : Value} {D : Nat → Prop} {xs : List Load} {g : FuncId} {caps : Array Value} {p : Load → Bool} (hs : SlR ⟨Try.prog, w0⟩ H D 5 Load.cells v xs) (hD : ∀ i, D i → i < n)
    (hg : ∀ r ∈ xs, ∀ n' H' (K' : Value → Nat → Heap → Prop), n ≤ n' → (∀ i, i < n → H' i = H i) → K' (.bool (p r)) n' H' → ACall ⟨Try.prog, w0⟩ g (.agg r.cells.toArray :: caps.toList) K' n' H')
    (hb : xs.length < 9223372036854775807) (hent : entB Try.prog g = true) (hk : K (.bool (xs.any p)) n H) : ACall ⟨Try.prog, w0⟩ 38 [v, .func (.func g) #[] caps] K n H :=
  ACall.res (fun K' h => containsLoad_ok hs hD (fun r hr n' H' K2 h1 h2 h3 => hg r hr n' H' K2 h1 h2 (h3 n' H' (Nat.le_refl _) (fun _ _ => rfl))) hb hent h) (by simp) hk
theorem clDup_ok (r x : Load) {m : Nat} (hm : m < n) (hH : H m = .cells x.cells 42 1) (hk : K (.bool (decide (r.nm = x.nm))) n H) : ACall ⟨Try.prog, w0⟩ 39 [.agg r.cells.toArray, .pointer (some ⟨new m, 0, none⟩)] K n H := by
  refine ACall.res (fun K' h => ?_) (by simp) hk
  refine ACall.run Try.func39 rfl Try.ntmps39 Try.results39 (by simp) fun J0 => ?_
  simp (disch := omega) [-hset_if, -Bool.decide_and, hset_ne, hH]
  exact h.fin rfl (by omega) (fun i hi => by simp (disch := omega) only [hset_ne])
def dupAt (l : List Load) (i : Nat) : Bool := (l.take i).any fun x => decide (x.nm = (at_ l (i : Int)).nm)
def dupF (l : List Load) : Nat → Nat → Bool
  | 0, _ => false
  | k + 1, j => dupAt l j || dupF l k (j + 1)
theorem dupF_step {j : Nat} (h : j < l.length) : dupF l (l.length - j) j = (dupAt l j || dupF l (l.length - (j + 1)) (j + 1)) := by
  obtain ⟨k, hk⟩ : ∃ k, l.length - j = k + 1 := ⟨l.length - j - 1, by omega⟩
  rw [hk, dupF, show l.length - (j + 1) = k by omega]
theorem dupF_end {j : Nat} (h : ¬ j < l.length) : dupF l (l.length - j) j = false := by
  rw [show l.length - j = 0 by omega, dupF]
def stR (m : List Load) : Int := if m.all rngB = false then 6 else 0
def stD (l : List Load) (j : Nat) : Int := if dupF l (l.length - j) j = true then 5 else stR l
def stN (l m : List Load) : Int := if m.all (fun h => nameB h.nm) = false then 4 else stD l 0
/-- The error of a list. -/
def chk (l : List Load) : Int := if 64 < l.length then 7 else stN l l
theorem stN_nil : stN l [] = stD l 0 := by simp [stN]
theorem stN_yes (h : nameB x.nm = true) : stN l (x :: m) = stN l m := by simp [stN, h]
theorem stN_no (h : nameB x.nm = false) : stN l (x :: m) = 4 := by simp [stN, h]
theorem stR_nil : stR [] = 0 := by simp [stR]
theorem stR_yes (h : rngB x = true) : stR (x :: m) = stR m := by simp [stR, h]
theorem stR_no (h : rngB x = false) : stR (x :: m) = 6 := by simp [stR, h]
theorem stD_end {j : Nat} (h : ¬ j < l.length) : stD l j = stR l := by simp [stD, dupF_end h]
theorem stD_yes {j : Nat} (h : j < l.length) (hd : dupAt l j = false) : stD l j = stD l (j + 1) := by
  unfold stD; rw [dupF_step h, hd, Bool.false_or]
theorem stD_no {j : Nat} (h : j < l.length) (hd : dupAt l j = true) : stD l j = 5 := by
  unfold stD; rw [dupF_step h, hd, Bool.true_or, if_pos rfl]
theorem tk22 : tk Try.prog 22 = .slice := by kernel_rfl
theorem check_r (hs : SlR ⟨Try.prog, w0⟩ H D 5 Load.cells pv l) (hD : ∀ i, D i → i < n) (hb : l.length < 4611686018427387904) (hr : Res n H K (.int .i64 (chk l))) : ACall ⟨Try.prog, w0⟩ 13 [pv] K n H := by
  have hcells := hs.cells
  unfold chk at hr
  refine ACall.run Try.func13 rfl Try.ntmps13 Try.results13 (by simp) fun J0 => ?_
  simp (disch := omega) [-hset_if, -Bool.decide_and, hset_ne, hcells, hs.lenK]
  refine cif_dec (fun h1 => ?_) (fun h1 => ?_)
  · simp (disch := omega) [-hset_if, -Bool.decide_and, hset_ne, hcells]
    rw [if_pos (by omega)] at hr
    exact hr.fin rfl (by omega) (fun i hi => by simp (disch := omega) only [hset_ne])
  rw [if_neg (by omega)] at hr
  simp (disch := omega) [-hset_if, -Bool.decide_and, hset_ne, hcells, hs.lenK]
  refine AW.while (σ := Nat) (fun j => l.length - j) (fun j => [(0, pv), (12, pv), (13, .int .i64 l.length), (14, .int .i64 j)])
    (fun j n1 H1 => n ≤ n1 ∧ (∀ i, i < n → H1 i = H i) ∧ j ≤ l.length ∧ Res n H K (.int .i64 (stN l (l.drop j)))) 0 ?_ ?_ ?_
  · simp (disch := omega) [-hset_if, -Bool.decide_and, hset_ne]
  · exact ⟨Nat.le_refl _, fun _ _ => rfl, by omega, hr⟩
  clear hr
  rintro j n1 H1 ⟨g1, g2, g3, hr⟩
  have hs1 : SlR ⟨Try.prog, w0⟩ H1 D 5 Load.cells pv l := hs.frame (fun i hi => g2 i (hD i hi))
  simp (disch := omega) [-hset_if, -Bool.decide_and, hset_ne]
  refine cif_dec (fun h => ?_) (fun h => ?_)
  · rw [drop_at (by omega)] at hr
    simp (disch := omega) [-hset_if, -Bool.decide_and, hset_ne, hs1.ix elemS22, hs1.load0 shp42]
    refine name_ok ?_
    simp (disch := omega) [-hset_if, -Bool.decide_and, hset_ne]
    refine cif_var (fun h2 => ?_) (fun h2 => ?_)
    · simp (disch := omega) [-hset_if, -Bool.decide_and, hset_ne]
      rw [stN_yes h2] at hr
      exact Next.mk (j + 1) (by first | omega | (dsimp only; omega)) (by simp (disch := omega) [-hset_if, -Bool.decide_and, hset_ne]) ⟨by omega, fun i hi => by rw [hset_ne (by omega)]; exact g2 i hi, by omega, hr⟩
    · simp (disch := omega) [-hset_if, -Bool.decide_and, hset_ne]
      rw [stN_no h2] at hr
      exact hr.fin rfl (by omega) (fun i hi => by rw [hset_ne (by omega)]; exact g2 i hi)
  rw [List.drop_of_length_le (by omega), stN_nil] at hr
  simp (disch := omega) [-hset_if, -Bool.decide_and, hset_ne, hs1.lenK]
  refine AW.while (σ := Nat) (fun j => l.length - j) (fun j => [(0, pv), (23, pv), (24, .int .i64 l.length), (25, .int .i64 j)])
    (fun j n1 H1 => n ≤ n1 ∧ (∀ i, i < n → H1 i = H i) ∧ j ≤ l.length ∧ Res n H K (.int .i64 (stD l j))) 0 ?_ ?_ ?_
  · simp (disch := omega) [-hset_if, -Bool.decide_and, hset_ne]
  · exact ⟨g1, g2, by omega, hr⟩
  clear hr g1 g2 h hs1
  rintro j n1 H1 ⟨g1, g2, g3, hr⟩
  have hs1 : SlR ⟨Try.prog, w0⟩ H1 D 5 Load.cells pv l := hs.frame (fun i hi => g2 i (hD i hi))
  simp (disch := omega) [-hset_if, -Bool.decide_and, hset_ne]
  refine cif_dec (fun h => ?_) (fun h => ?_)
  · simp (disch := omega) [-hset_if, -Bool.decide_and, hset_ne, hs1.ix elemS22, hs1.load0 shp42]
    have hent : entB Try.prog 39 = true := by kernel_rfl
    refine SlR.head (hs1.frame (H' := hset n1 (.cells (at_ l (j : Int)).cells 42 1) H1) (fun i hi => by have := hD i hi; rw [hset_ne (by omega)])) tk22 elemS22 (show j ≤ l.length by omega) ?_
    intro v' hv'
    simp (disch := omega) [-hset_if, -Bool.decide_and, hset_ne]
    refine containsLoad_p (p := fun x => decide (x.nm = (at_ l (j : Int)).nm)) hv' (fun i hi => by have := hD i hi; omega) ?_ (by simp; omega) hent ?_
    · intro r hr n' H' K' f1 f2 f3
      exact clDup_ok r (at_ l (j : Int)) (m := n1) (by omega) (by rw [f2 n1 (by omega)]; simp) f3
    simp (disch := omega) [-hset_if, -Bool.decide_and, hset_ne]
    refine cif_var (fun h2 => ?_) (fun h2 => ?_)
    · simp (disch := omega) [-hset_if, -Bool.decide_and, hset_ne]
      rw [stD_no (by omega) h2] at hr
      exact hr.fin rfl (by omega) (fun i hi => by rw [hset_ne (by omega)]; exact g2 i hi)
    · simp (disch := omega) [-hset_if, -Bool.decide_and, hset_ne]
      rw [stD_yes (by omega) h2] at hr
      exact Next.mk (j + 1) (by first | omega | (dsimp only; omega)) (by simp (disch := omega) [-hset_if, -Bool.decide_and, hset_ne]) ⟨by omega, fun i hi => by rw [hset_ne (by omega)]; exact g2 i hi, by omega, hr⟩
  rw [stD_end (by omega)] at hr
  simp (disch := omega) [-hset_if, -Bool.decide_and, hset_ne, hs1.lenK]
  refine AW.while (σ := Nat) (fun j => l.length - j) (fun j => [(36, pv), (37, .int .i64 l.length), (38, .int .i64 j)])
    (fun j n1 H1 => n ≤ n1 ∧ (∀ i, i < n → H1 i = H i) ∧ j ≤ l.length ∧ Res n H K (.int .i64 (stR (l.drop j)))) 0 ?_ ?_ ?_
  · simp (disch := omega) [-hset_if, -Bool.decide_and, hset_ne]
  · exact ⟨g1, g2, by omega, hr⟩
  clear hr g1 g2 h hs1
  rintro j n1 H1 ⟨g1, g2, g3, hr⟩
  have hs1 : SlR ⟨Try.prog, w0⟩ H1 D 5 Load.cells pv l := hs.frame (fun i hi => g2 i (hD i hi))
  simp (disch := omega) [-hset_if, -Bool.decide_and, hset_ne]
  refine cif_dec (fun h => ?_) (fun h => ?_)
  · rw [drop_at (by omega)] at hr
    simp (disch := omega) [-hset_if, -Bool.decide_and, hset_ne, hs1.ix elemS22, hs1.load0 shp42]
    refine btw_ok ?_
    simp (disch := omega) [-hset_if, -Bool.decide_and, hset_ne]
    repeat' (first | (with_reducible intro _; first | (exfalso; omega) | (simp (disch := omega) [-hset_if, -Bool.decide_and, hset_ne]) | skip) | (with_reducible refine And.intro ?_ ?_; omega) | with_reducible apply cif_dec | with_reducible apply cif_beq | with_reducible apply cif_bne | with_reducible apply cif_var | with_reducible apply gif_dec | with_reducible apply gif_ndec | with_reducible apply gif_beq | with_reducible apply gif_bne | with_reducible apply gif_nbeq | with_reducible apply gif_var)
    any_goals
      (refine btw64_ok ?_
       simp (disch := omega) [-hset_if, -Bool.decide_and, hset_ne])
    repeat' (first | (with_reducible intro _; first | (exfalso; omega) | (simp (disch := omega) [-hset_if, -Bool.decide_and, hset_ne]) | skip) | (with_reducible refine And.intro ?_ ?_; omega) | with_reducible apply cif_dec | with_reducible apply cif_beq | with_reducible apply cif_bne | with_reducible apply cif_var | with_reducible apply gif_dec | with_reducible apply gif_ndec | with_reducible apply gif_beq | with_reducible apply gif_bne | with_reducible apply gif_nbeq | with_reducible apply gif_var)
    any_goals
      (refine btw_ok ?_
       simp (disch := omega) [-hset_if, -Bool.decide_and, hset_ne])
    repeat' (first | (with_reducible intro _; first | (exfalso; omega) | (simp (disch := omega) [-hset_if, -Bool.decide_and, hset_ne]) | skip) | (with_reducible refine And.intro ?_ ?_; omega) | with_reducible apply cif_dec | with_reducible apply cif_beq | with_reducible apply cif_bne | with_reducible apply cif_var | with_reducible apply gif_dec | with_reducible apply gif_ndec | with_reducible apply gif_beq | with_reducible apply gif_bne | with_reducible apply gif_nbeq | with_reducible apply gif_var)
    any_goals
      (refine btw_ok ?_
       simp (disch := omega) [-hset_if, -Bool.decide_and, hset_ne])
    repeat' (first | (with_reducible intro _; first | (exfalso; omega) | (simp (disch := omega) [-hset_if, -Bool.decide_and, hset_ne]) | skip) | (with_reducible refine And.intro ?_ ?_; omega) | with_reducible apply cif_dec | with_reducible apply cif_beq | with_reducible apply cif_bne | with_reducible apply cif_var | with_reducible apply gif_dec | with_reducible apply gif_ndec | with_reducible apply gif_beq | with_reducible apply gif_bne | with_reducible apply gif_nbeq | with_reducible apply gif_var)
    all_goals first
      | (rw [stR_no (by simp [rngB]; omega)] at hr; exact hr.fin rfl (by omega) (fun i hi => by rw [hset_ne (by omega)]; exact g2 i hi))
      | (rw [stR_yes (by simp [rngB]; omega)] at hr
         exact Next.mk (j + 1) (by first | omega | (dsimp only; omega)) (by simp (disch := omega) [-hset_if, -Bool.decide_and, hset_ne]) ⟨by omega, fun i hi => by rw [hset_ne (by omega)]; exact g2 i hi, by omega, hr⟩)
  rw [List.drop_of_length_le (by omega), stR_nil] at hr
  simp (disch := omega) [-hset_if, -Bool.decide_and, hset_ne]
  exact hr.fin rfl (by omega) g2
theorem check_ok (hs : SlR ⟨Try.prog, w0⟩ H D 5 Load.cells pv l) (hD : ∀ i, D i → i < n) (hb : l.length < 4611686018427387904) (hk : K (.int .i64 (chk l)) n H) : ACall ⟨Try.prog, w0⟩ 13 [pv] K n H :=
  ACall.res (fun _ h => check_r hs hD hb h) (by simp) hk
/-! ### The specification's Check -/
theorem at_take {i k : Nat} (hi : k < i) (h : i ≤ l.length) : at_ (l.take i) (k : Int) = at_ l (k : Int) := by
  rw [at_nat (by simp; omega), at_nat (by omega)]; simp
def stE (l : List Load) (i k : Nat) : Int := if ((l.take i).drop k).any (fun x => decide (x.nm = (at_ l (i : Int)).nm)) = true then 5 else stD l (i + 1)
theorem stE_0 {i : Nat} (h : i < l.length) : stD l i = stE l i 0 := by
  unfold stE
  rw [List.drop_zero]
  cases hd : dupAt l i with
  | true => rw [stD_no h hd]; unfold dupAt at hd; rw [if_pos hd]
  | false => rw [stD_yes h hd]; unfold dupAt at hd; rw [if_neg (by rw [hd]; simp)]
theorem stE_end {i k : Nat} (h : i ≤ k) : stE l i k = stD l (i + 1) := by
  unfold stE
  rw [List.drop_of_length_le (by simp; omega)]; simp
theorem stE_no {i k : Nat} (hi : k < i) (h : i < l.length) (he : (at_ l (i : Int)).nm = (at_ l (k : Int)).nm) : stE l i k = 5 := by
  unfold stE
  rw [drop_at (by simp; omega), at_take hi (by omega), List.any_cons, decide_eq_true he.symm]; simp
theorem stE_yes {i k : Nat} (hi : k < i) (h : i < l.length) (he : (at_ l (i : Int)).nm ≠ (at_ l (k : Int)).nm) : stE l i k = stE l i (k + 1) := by
  unfold stE
  rw [drop_at (by simp; omega), at_take hi (by omega), List.any_cons, decide_eq_false (fun e => he e.symm), Bool.false_or]
theorem checkR_r (hs : SlR ⟨Try.prog, w0⟩ H D 5 Load.cells pv l) (hD : ∀ i, D i → i < n) (hb : l.length < 4611686018427387904) (hr : Res n H K (.int .i64 (chk l))) : ACall ⟨Try.prog, w0⟩ 12 [pv] K n H := by
  have hcells := hs.cells
  unfold chk at hr
  refine ACall.run Try.func12 rfl Try.ntmps12 Try.results12 (by simp) fun J0 => ?_
  simp (disch := omega) [-hset_if, -Bool.decide_and, hset_ne, hcells, hs.lenK]
  refine cif_dec (fun h1 => ?_) (fun h1 => ?_)
  · simp (disch := omega) [-hset_if, -Bool.decide_and, hset_ne, hcells]
    rw [if_pos (by omega)] at hr
    exact hr.fin rfl (by omega) (fun i hi => by simp (disch := omega) only [hset_ne])
  rw [if_neg (by omega)] at hr
  simp (disch := omega) [-hset_if, -Bool.decide_and, hset_ne, hcells]
  refine AW.while (σ := Nat) (fun j => l.length - j) (fun j => [(0, pv), (3, .int .i64 j)])
    (fun j n1 H1 => n1 = n ∧ H1 = H ∧ j ≤ l.length ∧ Res n H K (.int .i64 (stN l (l.drop j)))) 0 ?_ ?_ ?_
  · simp (disch := omega) [-hset_if, -Bool.decide_and, hset_ne]
  · exact ⟨rfl, rfl, by omega, hr⟩
  clear hr
  rintro j n1 H1 ⟨rfl, rfl, g1, hr⟩
  simp (disch := omega) [-hset_if, -Bool.decide_and, hset_ne, hs.lenK]
  refine cif_dec (fun h => ?_) (fun h => ?_)
  · rw [drop_at (by omega)] at hr
    simp (disch := omega) [-hset_if, -Bool.decide_and, hset_ne, hs.ix elemS22, hs.load shp9, hs.load0 shp9]
    refine NameR_ok ?_
    simp (disch := omega) [-hset_if, -Bool.decide_and, hset_ne]
    refine cif_var (fun hv => ?_) (fun hv => ?_)
    · simp (disch := omega) [-hset_if, -Bool.decide_and, hset_ne]
      rw [stN_yes hv] at hr
      exact Next.mk (j + 1) (by first | omega | (dsimp only; omega)) (by simp (disch := omega) [-hset_if, -Bool.decide_and, hset_ne]) ⟨rfl, rfl, by omega, hr⟩
    · simp (disch := omega) [-hset_if, -Bool.decide_and, hset_ne]
      rw [stN_no hv] at hr
      exact hr.fin rfl (by omega) (fun i hi => by simp (disch := omega) only [hset_ne])
  rw [List.drop_of_length_le (by omega), stN_nil] at hr
  simp (disch := omega) [-hset_if, -Bool.decide_and, hset_ne]
  refine AW.while (σ := Nat) (fun j => l.length - j) (fun j => [(0, pv), (4, .int .i64 j)])
    (fun j n2 H2 => n2 = n1 ∧ H2 = H1 ∧ j ≤ l.length ∧ Res n1 H1 K (.int .i64 (stD l j))) 0 ?_ ?_ ?_
  · simp (disch := omega) [-hset_if, -Bool.decide_and, hset_ne]
  · exact ⟨rfl, rfl, by omega, hr⟩
  clear hr h g1
  rintro i n2 H2 ⟨rfl, rfl, g1, hr⟩
  simp (disch := omega) [-hset_if, -Bool.decide_and, hset_ne, hs.lenK]
  refine cif_dec (fun h => ?_) (fun h => ?_)
  · rw [stE_0 (by omega)] at hr
    simp (disch := omega) [-hset_if, -Bool.decide_and, hset_ne]
    refine AW.while (σ := Nat) (fun k => i - k) (fun k => [(0, pv), (4, .int .i64 i), (5, .int .i64 k)])
      (fun k n3 H3 => n3 = n2 ∧ H3 = H2 ∧ k ≤ i ∧ Res n2 H2 K (.int .i64 (stE l i k))) 0 ?_ ?_ ?_
    · simp (disch := omega) [-hset_if, -Bool.decide_and, hset_ne]
    · exact ⟨rfl, rfl, by omega, hr⟩
    clear hr
    rintro k n3 H3 ⟨rfl, rfl, g2, hr⟩
    simp (disch := omega) [-hset_if, -Bool.decide_and, hset_ne]
    refine cif_dec (fun hk => ?_) (fun hk => ?_)
    · have hl : (k : Int) < l.length := by omega
      simp (disch := omega) [-hset_if, -Bool.decide_and, hset_ne]
      refine AW.draw (X := ⟨_, 57, _, _⟩) (id := 14) mixed (.take 0 <| .take 1 <| .take 2 <| .take 3 <| .take 4 <| .take 5 <| .take 6 <| .take 7 <| .take 8 <| .take 9 <| .take 10 <| .done) (by kernel_rfl) ?_
      simp (disch := omega) [-hset_if, -Bool.decide_and, hset_ne, hs.ix elemS22, hs.load shp9, hs.load0 shp9, hl, h]
      refine cif_dec (fun he => ?_) (fun he => ?_)
      · simp (disch := omega) [-hset_if, -Bool.decide_and, hset_ne]
        rw [stE_no (by omega) (by omega) he] at hr
        exact hr.fin rfl (by omega) (fun i hi => by simp (disch := omega) only [hset_ne])
      · simp (disch := omega) [-hset_if, -Bool.decide_and, hset_ne]
        rw [stE_yes (by omega) (by omega) he] at hr
        exact Next.mk (k + 1) (by first | omega | (dsimp only; omega)) (by simp (disch := omega) [-hset_if, -Bool.decide_and, hset_ne]) ⟨rfl, rfl, by omega, hr⟩
    · simp (disch := omega) [-hset_if, -Bool.decide_and, hset_ne]
      rw [stE_end (by omega)] at hr
      exact Next.mk (i + 1) (by first | omega | (dsimp only; omega)) (by simp (disch := omega) [-hset_if, -Bool.decide_and, hset_ne]) ⟨rfl, rfl, by omega, hr⟩
  rw [stD_end (by omega)] at hr
  simp (disch := omega) [-hset_if, -Bool.decide_and, hset_ne]
  refine AW.while (σ := Nat) (fun j => l.length - j) (fun j => [(0, pv), (6, .int .i64 j)])
    (fun j n3 H3 => n3 = n2 ∧ H3 = H2 ∧ j ≤ l.length ∧ Res n2 H2 K (.int .i64 (stR (l.drop j)))) 0 ?_ ?_ ?_
  · simp (disch := omega) [-hset_if, -Bool.decide_and, hset_ne]
  · exact ⟨rfl, rfl, by omega, hr⟩
  clear hr h g1
  rintro j n3 H3 ⟨rfl, rfl, g1, hr⟩
  simp (disch := omega) [-hset_if, -Bool.decide_and, hset_ne, hs.lenK]
  refine cif_dec (fun h => ?_) (fun h => ?_)
  · rw [drop_at (by omega)] at hr
    simp (disch := omega) [-hset_if, -Bool.decide_and, hset_ne, hs.ix elemS22, hs.load0 shp42]
    refine ranges_ok _ ?_
    simp (disch := omega) [-hset_if, -Bool.decide_and, hset_ne]
    refine cif_var (fun hv => ?_) (fun hv => ?_)
    · simp (disch := omega) [-hset_if, -Bool.decide_and, hset_ne]
      rw [stR_yes hv] at hr
      exact Next.mk (j + 1) (by first | omega | (dsimp only; omega)) (by simp (disch := omega) [-hset_if, -Bool.decide_and, hset_ne]) ⟨rfl, rfl, by omega, hr⟩
    · simp (disch := omega) [-hset_if, -Bool.decide_and, hset_ne]
      rw [stR_no hv] at hr
      exact hr.fin rfl (by omega) (fun i hi => by simp (disch := omega) only [hset_ne])
  rw [List.drop_of_length_le (by omega), stR_nil] at hr
  simp (disch := omega) [-hset_if, -Bool.decide_and, hset_ne]
  exact hr.fin rfl (by omega) (fun i hi => by simp (disch := omega) only [hset_ne])
theorem checkR_ok (hs : SlR ⟨Try.prog, w0⟩ H D 5 Load.cells pv l) (hD : ∀ i, D i → i < n) (hb : l.length < 4611686018427387904) (hk : K (.int .i64 (chk l)) n H) : ACall ⟨Try.prog, w0⟩ 12 [pv] K n H :=
  ACall.res (fun _ h => checkR_r hs hD hb h) (by simp) hk
end Go.Aw.S56
