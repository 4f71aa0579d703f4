/-
  Chapter 56: sums, what may change, what is ready, equal lists.
-/
import Derived.Test.YtmppccnafhckoaaS56c
namespace Go.Aw.S56
open Go.RowKit Go.Proofs Go.Aw.Tab
set_option linter.unusedSimpArgs false
set_option linter.unusedVariables false
set_option maxRecDepth 10000
set_option maxHeartbeats 1000000
set_option pp.deepTerms false
set_option pp.deepTerms.threshold 4
set_option pp.maxSteps 1500
attribute [local simp] Load.cells Sta.cells intC
variable {w0 : World} {n : Nat} {H : Heap} {K : Value → Nat → Heap → Prop} {pv sv ov : Value} {D E F : Nat → Prop} {l : List Load} {s : List Sta} {o : List Int}
theorem tk24 : tk Try.prog 24 = .slice := by kernel_rfl
theorem tk46 : tk Try.prog 46 = .slice := by kernel_rfl
theorem tk44 : tk Try.prog 44 = .slice := by kernel_rfl
/-- The power of the rest, behind the first j. -/
def pwT (l : List Load) (s : List Sta) (j : Nat) : Int := pwS (l.drop j) (s.drop j)
theorem pwT_step {j : Nat} (h1 : j < l.length) (h2 : j < s.length) : pwT l s j = (if (at_ s (j : Int)).shed then 0 else (at_ l (j : Int)).pw) + pwT l s (j + 1) := by
  unfold pwT; rw [drop_at h1, drop_at h2, pwS]
theorem pwT_end {j : Nat} (h : ¬ j < l.length) : pwT l s j = 0 := by
  unfold pwT; rw [List.drop_of_length_le (by omega)]; rfl
theorem pwT_bound (hR : ∀ x ∈ l, rngB x = true) (hl : l.length ≤ 64) (j : Nat) : 0 ≤ pwT l s j ∧ pwT l s j ≤ 1000000000000 := by
  have := pwS_bound (l := l.drop j) (s := s.drop j) (fun x hx => hR x (List.mem_of_mem_drop hx))
  have h2 : (l.drop j).length ≤ 64 := by simp; omega
  unfold pwT; omega
theorem at_rng (hR : ∀ x ∈ l, rngB x = true) {j : Nat} (h : j < l.length) : 0 ≤ (at_ l (j : Int)).pw ∧ (at_ l (j : Int)).pw ≤ 15625000000 := by
  have := hR _ (at_mem h)
  simp only [rngB, decide_eq_true_eq] at this
  omega
theorem power_ok (hs : SlR ⟨Try.prog, w0⟩ H D 5 Load.cells pv l) (hD : ∀ i, D i → i < n) (ht : SlR ⟨Try.prog, w0⟩ H E 2 Sta.cells sv s) (hE : ∀ i, E i → i < n) (hR : ∀ x ∈ l, rngB x = true) (hl : l.length ≤ 64) (hq : s.length = l.length)
    (hk : K (.int .i64 (pwS l s)) n H) : ACall ⟨Try.prog, w0⟩ 49 [pv, sv] K n H := by
  refine ACall.res (fun K' hr => ?_) (by simp) hk
  have hb := pwT_bound (s := s) hR hl
  have h0 : pwT l s 0 = pwS l s := rfl
  refine ACall.run Try.func49 rfl Try.ntmps49 Try.results49 (by simp) fun J0 => ?_
  simp (disch := omega) [-hset_if, -Bool.decide_and, hset_ne, hs.lenK]
  refine AW.while (σ := Nat) (fun j => l.length - j) (fun j => [(1, sv), (5, .int .i64 (pwT l s 0 - pwT l s j)), (8, pv), (9, .int .i64 l.length), (10, .int .i64 j)])
    (fun j n1 H1 => n ≤ n1 ∧ (∀ i, i < n → H1 i = H i) ∧ j ≤ l.length) 0 ?_ ?_ ?_
  · simp (disch := omega) [-hset_if, -Bool.decide_and, hset_ne]
  · exact ⟨Nat.le_refl _, fun _ _ => rfl, by omega⟩
  rintro j n1 H1 ⟨g1, g2, g3⟩
  have hs1 : SlR ⟨Try.prog, w0⟩ H1 D 5 Load.cells pv l := hs.frame (fun i hi => g2 i (hD i hi))
  have ht1 : ∀ o, SlR ⟨Try.prog, w0⟩ (hset n1 o H1) E 2 Sta.cells sv s := fun o => ht.frame (fun i hi => by have := hE i hi; rw [hset_ne (by omega)]; exact g2 i this)
  simp (disch := omega) [-hset_if, -Bool.decide_and, hset_ne]
  refine cif_dec (fun h => ?_) (fun h => ?_)
  · have hjs : (j : Int) < s.length := by omega
    have hst := pwT_step (l := l) (s := s) (j := j) (by omega) (by omega)
    have hb0 := hb 0
    have hb1 := hb j
    have hb2 := hb (j + 1)
    have hld := at_rng hR (j := j) (by omega)
    have hl4 := fun o h1 h2 => (ht1 o).load shp4 (off := 0) (z := (j : Int)) (by omega) (by omega) h1 h2
    have hl5 := fun o h1 h2 => (ht1 o).load0 shp4 (z := (j : Int)) (by omega) (by omega) h1 h2
    simp (disch := omega) [-hset_if, -Bool.decide_and, hset_ne, hs1.ix elemS22, hs1.load0 shp42, hjs, ht1, (ht1 .dead).ix elemS46, hl4, hl5]
    refine cif_var (fun hx => ?_) (fun hx => ?_)
    · rw [hx, if_pos rfl] at hst
      simp (disch := omega) [-hset_if, -Bool.decide_and, hset_ne]
      exact Next.mk (j + 1) (by first | omega | (dsimp only; omega)) (by rw [show pwT l s (j + 1) = pwT l s j by omega]; simp (disch := omega) [-hset_if, -Bool.decide_and, hset_ne]) ⟨by omega, fun i hi => by rw [hset_ne (by omega)]; exact g2 i hi, by omega⟩
    · rw [hx, if_neg (by simp)] at hst
      simp (disch := omega) [-hset_if, -Bool.decide_and, hset_ne]
      exact Next.mk (j + 1) (by first | omega | (dsimp only; omega)) (by rw [show pwT l s 0 - pwT l s (j + 1) = pwT l s 0 - pwT l s j + (at_ l (j : Int)).pw by omega]; simp (disch := omega) [-hset_if, -Bool.decide_and, hset_ne]) ⟨by omega, fun i hi => by rw [hset_ne (by omega)]; exact g2 i hi, by omega⟩
  · have := pwT_end (l := l) (s := s) (j := j) (by omega)
    rw [this]
    simp (disch := omega) [-hset_if, -Bool.decide_and, hset_ne]
    exact hr.fin (by first | (congr 1; done) | (congr 1; omega)) (by omega) g2
theorem powerR_ok (hs : SlR ⟨Try.prog, w0⟩ H D 5 Load.cells pv l) (ht : SlR ⟨Try.prog, w0⟩ H E 2 Sta.cells sv s) (hR : ∀ x ∈ l, rngB x = true) (hl : l.length ≤ 64) (hq : s.length = l.length)
    (hk : K (.int .i64 (pwS l s)) n H) : ACall ⟨Try.prog, w0⟩ 28 [pv, sv] K n H := by
  refine ACall.res (fun K' hr => ?_) (by simp) hk
  have hb := pwT_bound (s := s) hR hl
  have h0 : pwT l s 0 = pwS l s := rfl
  refine ACall.run Try.func28 rfl Try.ntmps28 Try.results28 (by simp) fun J0 => ?_
  simp (disch := omega) [-hset_if, -Bool.decide_and, hset_ne]
  refine AW.while (σ := Nat) (fun j => l.length - j) (fun j => [(0, pv), (1, sv), (5, .int .i64 (pwT l s 0 - pwT l s j)), (6, .int .i64 j)])
    (fun j n1 H1 => n1 = n ∧ H1 = H ∧ j ≤ l.length) 0 ?_ ?_ ?_
  · simp (disch := omega) [-hset_if, -Bool.decide_and, hset_ne]
  · exact ⟨rfl, rfl, by omega⟩
  rintro j n1 H1 ⟨rfl, rfl, g3⟩
  simp (disch := omega) [-hset_if, -Bool.decide_and, hset_ne, hs.lenK]
  refine cif_dec (fun h => ?_) (fun h => ?_)
  · have hjs : (j : Int) < s.length := by omega
    have hst := pwT_step (l := l) (s := s) (j := j) (by omega) (by omega)
    have hb0 := hb 0
    have hb1 := hb j
    have hb2 := hb (j + 1)
    have hld := at_rng hR (j := j) (by omega)
    simp (disch := omega) [-hset_if, -Bool.decide_and, hset_ne, ht.ix elemS44, ht.load shp4, ht.load0 shp4, hjs]
    refine cif_var (fun hx => ?_) (fun hx => ?_)
    · rw [hx, if_pos rfl] at hst
      simp (disch := omega) [-hset_if, -Bool.decide_and, hset_ne]
      exact Next.mk (j + 1) (by first | omega | (dsimp only; omega)) (by rw [show pwT l s (j + 1) = pwT l s j by omega]; simp (disch := omega) [-hset_if, -Bool.decide_and, hset_ne]) ⟨rfl, rfl, by omega⟩
    · rw [hx, if_neg (by simp)] at hst
      simp (disch := omega) [-hset_if, -Bool.decide_and, hset_ne, hs.ix elemS22, hs.load shp2, hs.load0 shp2]
      exact Next.mk (j + 1) (by first | omega | (dsimp only; omega)) (by rw [show pwT l s 0 - pwT l s (j + 1) = pwT l s 0 - pwT l s j + (at_ l (j : Int)).pw by omega]; simp (disch := omega) [-hset_if, -Bool.decide_and, hset_ne]) ⟨rfl, rfl, by omega⟩
  · have := pwT_end (l := l) (s := s) (j := j) (by omega)
    rw [this]
    simp (disch := omega) [-hset_if, -Bool.decide_and, hset_ne]
    exact hr.fin (by first | (congr 1; done) | (congr 1; omega)) (by omega) (fun i hi => by simp (disch := omega) only [hset_ne])
theorem sumO_drop {j : Nat} (h : j < o.length) : sumO l (o.drop j) = (at_ l (at_ o (j : Int))).pw + sumO l (o.drop (j + 1)) := by
  rw [drop_at h, sumO]
theorem sumO_b (hR : ∀ x ∈ l, rngB x = true) (hl : l.length ≤ 64) (ho : ∀ k ∈ o, 0 ≤ k ∧ k < l.length) (hol : o.length ≤ 64) (j : Nat) : 0 ≤ sumO l (o.drop j) ∧ sumO l (o.drop j) ≤ 1000000000000 := by
  have := sumO_bound hR (o := o.drop j) (fun k hk => ho k (List.mem_of_mem_drop hk))
  have h2 : (o.drop j).length ≤ 64 := by simp; omega
  omega
theorem at_rngI (hR : ∀ x ∈ l, rngB x = true) {k : Int} (h : 0 ≤ k ∧ k < l.length) : 0 ≤ (at_ l k).pw ∧ (at_ l k).pw ≤ 15625000000 := by
  have := pw_bound hR h
  simp only [rngB, decide_eq_true_eq] at this
  omega
theorem rest_ok (hs : SlR ⟨Try.prog, w0⟩ H D 5 Load.cells pv l) (ho : SlR ⟨Try.prog, w0⟩ H F 1 intC ov o) (hR : ∀ x ∈ l, rngB x = true) (hl : l.length ≤ 64) (hin : ∀ k ∈ o, 0 ≤ k ∧ k < l.length) (hol : o.length ≤ 64) {m : Nat} (hm : m ≤ o.length)
    (hk : K (.int .i64 (sumO l (o.drop m))) n H) : ACall ⟨Try.prog, w0⟩ 46 [pv, ov, .int .i64 m] K n H := by
  refine ACall.res (fun K' hr => ?_) (by simp) hk
  have hb := sumO_b hR hl hin hol
  refine ACall.run Try.func46 rfl Try.ntmps46 Try.results46 (by simp) fun J0 => ?_
  simp (disch := omega) [-hset_if, -Bool.decide_and, hset_ne]
  refine AW.while (σ := Nat) (fun j => o.length - j) (fun j => [(0, pv), (1, ov), (7, .int .i64 (sumO l (o.drop m) - sumO l (o.drop j))), (8, .int .i64 j)])
    (fun j n1 H1 => n1 = n ∧ H1 = H ∧ m ≤ j ∧ j ≤ o.length) m ?_ ?_ ?_
  · simp (disch := omega) [-hset_if, -Bool.decide_and, hset_ne]
  · exact ⟨rfl, rfl, by omega, by omega⟩
  rintro j n1 H1 ⟨rfl, rfl, g1, g3⟩
  simp (disch := omega) [-hset_if, -Bool.decide_and, hset_ne, ho.lenK]
  refine cif_dec (fun h => ?_) (fun h => ?_)
  · have hst := sumO_drop (l := l) (o := o) (j := j) (by omega)
    have hb0 := hb m
    have hb1 := hb j
    have hb2 := hb (j + 1)
    have hki := hin _ (at_mem (l := o) (j := j) (by omega))
    have hld := at_rngI hR hki
    simp (disch := omega) [-hset_if, -Bool.decide_and, hset_ne, ho.ix elemS24, ho.load0 shp3, hs.ix elemS22, hs.load shp2, hs.load0 shp2, hki.1, hki.2]
    exact Next.mk (j + 1) (by first | omega | (dsimp only; omega)) (by rw [show sumO l (o.drop m) - sumO l (o.drop (j + 1)) = sumO l (o.drop m) - sumO l (o.drop j) + (at_ l (at_ o (j : Int))).pw by omega]; simp (disch := omega) [-hset_if, -Bool.decide_and, hset_ne]) ⟨rfl, rfl, by omega, by omega⟩
  · rw [List.drop_of_length_le (l := o) (i := j) (by omega)]
    simp (disch := omega) [-hset_if, -Bool.decide_and, hset_ne, sumO]
    exact hr.fin (by simp) (by omega) (fun i hi => by simp (disch := omega) only [hset_ne])
def instB (x : Int) : Prop := 0 ≤ x ∧ x ≤ 6311433599
theorem free_ok (ld : Load) (st : Sta) {now : Int} (h1 : instB now) (h2 : instB st.since) (hk : K (.bool (fre ld st now)) n H) : ACall ⟨Try.prog, w0⟩ 26 [.agg ld.cells.toArray, .agg st.cells.toArray, .int .i64 now] K n H := by
  refine ACall.res (fun K' hr => ?_) (by simp) hk
  unfold instB at h1 h2
  unfold fre at hr
  refine ACall.run Try.func26 rfl Try.ntmps26 Try.results26 (by simp) fun J0 => ?_
  simp (disch := omega) [-hset_if, -Bool.decide_and, hset_ne]
  refine cif_var (fun hx => ?_) (fun hx => ?_)
  · rw [if_pos hx] at hr
    simp (disch := omega) [-hset_if, -Bool.decide_and, hset_ne]
    exact hr.fin rfl (by omega) (fun i hi => by simp (disch := omega) only [hset_ne])
  · rw [if_neg (by simp [hx])] at hr
    simp (disch := omega) [-hset_if, -Bool.decide_and, hset_ne]
    exact hr.fin rfl (by omega) (fun i hi => by simp (disch := omega) only [hset_ne])
theorem sameInts_ok {v u : Value} {xs ys : List Int} (hx : SlR ⟨Try.prog, w0⟩ H D 1 intC v xs) (hy : SlR ⟨Try.prog, w0⟩ H E 1 intC u ys) (hb : xs.length < 4611686018427387904) (hk : K (.bool (decide (xs = ys))) n H) : ACall ⟨Try.prog, w0⟩ 14 [v, u] K n H := by
  refine ACall.res (fun K' hr => ?_) (by simp) hk
  refine ACall.run Try.func14 rfl Try.ntmps14 Try.results14 (by simp) fun J0 => ?_
  simp (disch := omega) [-hset_if, -Bool.decide_and, hset_ne, hx.lenK, hy.lenK]
  refine cif_bne (fun h0 => ?_) (fun h0 => ?_)
  rotate_left
  · simp (disch := omega) [-hset_if, -Bool.decide_and, hset_ne]
    exact hr.fin (by rw [decide_eq_false (fun e => h0 (by rw [e]))]) (by omega) (fun i hi => by simp (disch := omega) only [hset_ne])
  simp (disch := omega) [-hset_if, -Bool.decide_and, hset_ne]
  refine AW.while (σ := Nat) (fun j => xs.length - j) (fun j => [(0, v), (1, u), (5, .int .i64 j)])
    (fun j n1 H1 => n1 = n ∧ H1 = H ∧ j ≤ xs.length ∧ Res n H K' (.bool (decide (xs.drop j = ys.drop j)))) 0 ?_ ?_ ?_
  · simp (disch := omega) [-hset_if, -Bool.decide_and, hset_ne]
  · exact ⟨rfl, rfl, by omega, hr⟩
  clear hr
  rintro j n1 H1 ⟨rfl, rfl, g1, hr⟩
  simp (disch := omega) [-hset_if, -Bool.decide_and, hset_ne, hx.lenK]
  refine cif_dec (fun h => ?_) (fun h => ?_)
  · have hy2 : (j : Int) < ys.length := by omega
    rw [drop_at (l := xs) (j := j) (by omega), drop_at (l := ys) (j := j) (by omega)] at hr
    simp (disch := omega) [-hset_if, -Bool.decide_and, hset_ne]
    refine AW.draw (X := ⟨_, 26, _, _⟩) (id := 6) mixed (.take 0 <| .take 1 <| .take 2 <| .take 3 <| .take 4 <| .take 5 <| .take 6 <| .take 7 <| .take 8 <| .done) (by kernel_rfl) ?_
    simp (disch := omega) [-hset_if, -Bool.decide_and, hset_ne, hx.ix elemS24, hx.load0 shp3, hy.ix elemS24, hy.load0 shp3, h, hy2]
    refine cif_bne (fun h1 => ?_) (fun h1 => ?_)
    · simp (disch := omega) [-hset_if, -Bool.decide_and, hset_ne]
      refine Next.mk (j + 1) (by first | omega | (dsimp only; omega)) (by simp (disch := omega) [-hset_if, -Bool.decide_and, hset_ne]) ⟨rfl, rfl, by omega, ?_⟩
      rw [h1] at hr
      simpa using hr
    · simp (disch := omega) [-hset_if, -Bool.decide_and, hset_ne]
      exact hr.fin (by rw [decide_eq_false (fun e => h1 (List.cons.inj e).1)]) (by omega) (fun i hi => by simp (disch := omega) only [hset_ne])
  · rw [List.drop_of_length_le (l := xs) (i := j) (by omega), List.drop_of_length_le (l := ys) (i := j) (by omega)] at hr
    simp (disch := omega) [-hset_if, -Bool.decide_and, hset_ne]
    exact hr.fin (by simp) (by omega) (fun i hi => by simp (disch := omega) only [hset_ne])
end Go.Aw.S56
