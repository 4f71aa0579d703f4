/-
  Chapter 34: Expire; the statement OverrideExpires.
-/
import Derived.Test.YtlcngkigfcacmaaS34t
import Derived.Test.YtlcngkigfcacmaaS34r
import Derived.Test.YtlcngkigfcacmaaS34k
import Derived.Test.YtlcngkigfcacmaaS34j
namespace Go.Aw.S34
open Go.RowKit Go.Proofs Go.Aw.Tab
set_option linter.unusedSimpArgs false
set_option linter.unusedVariables false
set_option maxRecDepth 10000
set_option maxHeartbeats 1000000
set_option pp.deepTerms false
set_option pp.deepTerms.threshold 4
set_option pp.maxSteps 1500
attribute [local simp] Hold.cells
variable {w0 : World} {n : Nat} {H : Heap} {K : Value → Nat → Heap → Prop} {s : ByteArray} {pv : Value} {D : Nat → Prop} {l : List Hold} {t : Int}
theorem flatH : ∀ x ∈ l, ∀ v ∈ x.cells, flat v = true := by
  intro x _ v hv
  simp only [Hold.cells, List.mem_cons, List.not_mem_nil, or_false] at hv
  rcases hv with rfl | rfl | rfl | rfl | rfl | rfl <;> rfl
theorem oneH : ∀ x ∈ l, oneAll (Hold.cells x) = true := fun x _ => by simp
theorem expire_ok (hs : SlR ⟨Try.prog, w0⟩ H D 6 Hold.cells pv l) (hD : ∀ i, D i → i < n) (hb : l.length < 4611686018427387904)
    (hk : ∀ v n' H', Made n H 43 6 Hold.cells (exL l t) v n' H' → K v n' H') : ACall ⟨Try.prog, w0⟩ 21 [pv, .int .i64 t] K n H := by
  by_cases hc : chk l = 0
  rotate_left
  · exact expire_no hs hD hb hc (hk _ _ _ (.nil (if_neg hc)))
  have hl64 := chk_len hc
  refine ACall.made flatH ?_ hk
  have hent : entB Try.prog 42 = true := by kernel_rfl
  refine ACall.run Try.func21 rfl Try.ntmps21 Try.results21 (by simp) fun J0 => ?_
  simp (disch := omega) [-hset_if, -Bool.decide_and, hset_ne]
  have hs1 : SlR ⟨Try.prog, w0⟩ (hset n (.cells [.int .i64 t] 3 1) H) D 6 Hold.cells pv l := hs.frame (fun i hi => by have := hD i hi; rw [hset_ne (by omega)])
  have hD1 : ∀ i, D i → i < n + 1 := fun i hi => by have := hD i hi; omega
  refine check_ok hs1 hD1 hb ?_
  rw [hc]
  simp (disch := omega) [-hset_if, -Bool.decide_and, hset_ne]
  refine cloneHold_ok hs1 hD1 oneH (by omega) (by omega) ?_
  intro v1 n1 H1 E e1 e2 e3 e4
  have h0 := e2 n (by omega)
  simp (disch := omega) [-hset_if, -Bool.decide_and, hset_ne] at h0
  simp (disch := omega) [-hset_if, -Bool.decide_and, hset_ne]
  refine deleteHold_ok (p := fun x => decide (x.to ≤ t)) e4 ?_ hb hent ?_
  · intro r hr n' H' K' g1 g2 g3
    exact clEnd_ok r (m := n) (by omega) (by rw [g2 n (by omega) (fun h => by have := e3 n h; omega), h0]) (g3 n' H' (Nat.le_refl _) (fun _ _ => rfl))
  intro v2 n2 H2 f1 f2 f3
  simp (disch := omega) [-hset_if, -Bool.decide_and, hset_ne]
  refine Fin_id ?_
  refine ⟨by omega, fun i hi => by rw [f2 i (by omega) (fun h => by have := e3 i h; omega), e2 i (by omega), hset_ne (by omega)], E, fun i hi => by have := e3 i hi; omega, ?_⟩
  unfold exL
  rw [if_pos hc]; exact f3
theorem expiresLaw_ok {later kd nu : Int} (hs : SlR ⟨Try.prog, w0⟩ H D 6 Hold.cells pv l) (hD : ∀ i, D i → i < n) (hr : Res n H K (.bool true)) :
    ACall ⟨Try.prog, w0⟩ 6 [pv, .int .i64 t, .int .i64 later, .agg #[.int .i64 kd, .int .i64 nu]] K n H := by
  refine ACall.run Try.func6 rfl Try.ntmps6 Try.results6 (by simp) fun J0 => ?_
  simp (disch := omega) [-hset_if, -Bool.decide_and, hset_ne]
  have hs1 : SlR ⟨Try.prog, w0⟩ (hset n (.cells [.int .i64 kd, .int .i64 nu] 41 1) H) D 6 Hold.cells pv l := hs.frame (fun i hi => by have := hD i hi; rw [hset_ne (by omega)])
  have hD1 : ∀ i, D i → i < n + 1 := fun i hi => by have := hD i hi; omega
  refine awake_ok ?_
  simp (disch := omega) [-hset_if, -Bool.decide_and, hset_ne]
  refine few_ok hs1 hD1 ?_
  simp (disch := omega) [-hset_if, -Bool.decide_and, hset_ne]
  refine gif_var (fun hf => ?_) (fun hf => ?_)
  · simp (disch := omega) [-hset_if, -Bool.decide_and, hset_ne]
    exact hr.fin rfl (by omega) (fun i hi => by simp (disch := omega) only [hset_ne])
  have hf : fewB l = true := by simpa using hf
  have hb := few_len hf
  simp (disch := omega) [-hset_if, -Bool.decide_and, hset_ne]
  refine cif_dec (fun h1 => ?_) (fun h1 => ?_)
  · simp (disch := omega) [-hset_if, -Bool.decide_and, hset_ne]
    exact hr.fin rfl (by omega) (fun i hi => by simp (disch := omega) only [hset_ne])
  refine AW.draw (X := ⟨_, 30, _, _⟩) (id := 5) mixed (.take 0 <| .take 1 <| .take 3 <| .take 4 <| .take 6 <| .take 7 <| .take 8 <| .each 2 [3, 4, 6, 7, 8] (.each 5 [6, 7, 8] (.each 9 [] (.take 10 <| .take 11 <| .done) <| .stop) <| .stop) <| .stop) (by kernel_rfl) ?_
  simp (disch := omega) [-hset_if, -Bool.decide_and, hset_ne]
  refine expire_ok hs1 hD1 hb ?_
  intro v n1 H1 hM
  have hfl : ∀ x ∈ exL l t, (Hold.cells x).length = 6 := fun x _ => by simp
  obtain ⟨m1, m2, m3, E, m4, m5⟩ := hM.own (C := ⟨Try.prog, w0⟩) (by omega) hfl
  have h0 := m3 n (by omega)
  simp (disch := omega) [-hset_if, -Bool.decide_and, hset_ne] at h0
  have hlx : (exL l t).length < 4611686018427387904 := by
    unfold exL
    split
    · have := List.length_filter_le (fun x : Hold => !decide (x.to ≤ t)) l
      omega
    · simp
  simp (disch := omega) [-hset_if, -Bool.decide_and, hset_ne, h0]
  refine value_ok m5.sl (fun i hi => (m4 i hi).2) hlx ?_
  rw [expires_law (by omega)]
  simp (disch := omega) [-hset_if, -Bool.decide_and, hset_ne, h0]
  refine value_ok (hs1.frame (fun i hi => m3 i (hD1 i hi))) (fun i hi => by have := hD1 i hi; omega) hb ?_
  simp (disch := omega) [-hset_if, -Bool.decide_and, hset_ne]
  exact hr.fin (by simp) (by omega) (fun i hi => by rw [m3 i (by omega), hset_ne (by omega)])
end Go.Aw.S34
