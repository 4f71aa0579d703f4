/-
  Chapter 34: the statement OverrideGoverns.
-/
import Derived.Test.YtlcngkigfcacmaaS34i
namespace Go.Aw.S34
open Go.RowKit Go.Proofs Go.Aw.Tab
set_option linter.unusedSimpArgs false
set_option linter.unusedVariables false
set_option maxRecDepth 10000
set_option maxHeartbeats 1000000
set_option pp.deepTerms false
set_option pp.deepTerms.threshold 4
set_option pp.maxSteps 1500
attribute [local simp] Hold.cells intC range_get Pc.cells
variable {w0 : World} {n : Nat} {H : Heap} {K : Value → Nat → Heap → Prop} {s : ByteArray} {pv : Value} {D : Nat → Prop} {l : List Hold} {t fr to : Int}
theorem few_nm (h : fewB l = true) : ∀ x ∈ l, x.nm.size ≤ 4611686018427387903 := by
  intro x hx
  unfold fewB at h
  rw [Bool.and_eq_true, List.all_eq_true] at h
  have := h.2 x hx
  simp at this
  omega
theorem few_len (h : fewB l = true) : l.length < 4611686018427387904 := by
  unfold fewB at h
  rw [Bool.and_eq_true, decide_eq_true_eq] at h
  omega
theorem governsLaw_ok {kd nu : Int} (hs : SlR ⟨Try.prog, w0⟩ H D 6 Hold.cells pv l) (hD : ∀ i, D i → i < n) (hr : Res n H K (.bool true)) :
    ACall ⟨Try.prog, w0⟩ 5 [pv, .int .i64 t, .agg #[.int .i64 kd, .int .i64 nu]] K n H := by
  refine ACall.run Try.func5 rfl Try.ntmps5 Try.results5 (by simp) fun J0 => ?_
  simp (disch := omega) [-hset_if, -Bool.decide_and, hset_ne]
  have hs1 : SlR ⟨Try.prog, w0⟩ (hset n (.cells [.int .i64 kd, .int .i64 nu] 41 1) H) D 6 Hold.cells pv l := hs.frame (fun i hi => by have := hD i hi; rw [hset_ne (by omega)])
  have hD1 : ∀ i, D i → i < n + 1 := fun i hi => by have := hD i hi; omega
  refine awake_ok ?_
  simp (disch := omega) [-hset_if, -Bool.decide_and, hset_ne]
  refine few_ok hs1 hD1 ?_
  simp (disch := omega) [-hset_if, -Bool.decide_and, hset_ne]
  refine cif_var (fun hf => ?_) (fun hf => ?_)
  rotate_left
  · simp (disch := omega) [-hset_if, -Bool.decide_and, hset_ne]
    exact hr.fin rfl (by omega) (fun i hi => by simp (disch := omega) only [hset_ne])
  have hn := few_nm hf
  have hb := few_len hf
  simp (disch := omega) [-hset_if, -Bool.decide_and, hset_ne]
  refine atR_ok hs1 hD1 hb hn ?_
  rw [chk_eq]
  have hV : valP l t kd nu = if 0 ≤ atC (chk l) l t then ((at_ l (atC (chk l) l t)).kind, (at_ l (atC (chk l) l t)).num) else (kd, nu) := rfl
  have hlt := fun h => atC_lt (c := chk l) (l := l) (t := t) h
  have hN := nxt_law (l := l) (t := t)
  have hN2 : chk l ≠ 0 → nxtP l t = (0, chk l) := fun h => if_neg h
  simp (disch := omega) [-hset_if, -Bool.decide_and, hset_ne]
  have hs2 := fun o o' => hs.frame (H' := hset (n + 1) o (hset n o' H)) (fun i hi => by have := hD i hi; rw [hset_ne (by omega), hset_ne (by omega)])
  have hD2 : ∀ i, D i → i < n + 1 + 1 := fun i hi => by have := hD i hi; omega
  have hl1 := fun o o' h1 h2 => (hs2 o o').load shp41 (off := 3) (z := atC (chk l) l t) (by omega) (by omega) h1 h2
  refine cif_dec (fun h0 => ?_) (fun h0 => ?_)
  · have h3 := hlt h0
    rw [if_pos h0] at hV
    simp (disch := omega) [-hset_if, -Bool.decide_and, hset_ne, hs.ix elemS22, hl1, h0, h3]
    refine AW.draw (X := ⟨_, 85, _, _⟩) (id := 9) mixed (.take 0 <| .take 1 <| .take 3 <| .each 2 [3] (.take 4 <| .take 5 <| .take 6 <| .take 7 <| .take 8 <| .take 10 <| .each 9 [10] (.take 11 <| .take 12 <| .done) <| .stop) <| .stop) (by kernel_rfl) ?_
    simp (disch := omega) [-hset_if, -Bool.decide_and, hset_ne]
    refine at_ok (hs2 _ _) hD2 hb ?_
    simp (disch := omega) [-hset_if, -Bool.decide_and, hset_ne]
    refine value_ok (hs2 _ _) hD2 hb ?_
    rw [hV]
    simp (disch := omega) [-hset_if, -Bool.decide_and, hset_ne]
    refine next_ok (hs2 _ _) hD2 hb ?_
    simp (disch := omega) [-hset_if, -Bool.decide_and, hset_ne]
    refine checkR_ok (hs2 _ _) hD2 hb hn ?_
    rw [chk_eq]
    simp (disch := omega) [-hset_if, -Bool.decide_and, hset_ne]
    refine cif_bne (fun hc => ?_) (fun hc => ?_)
    · simp (disch := omega) [-hset_if, -Bool.decide_and, hset_ne]
      refine nextR_ok (hs2 _ _) hD2 hb hn ?_
      have hN1 := hN hc
      generalize rnx l t = r at hN1 ⊢
      rcases hN1 with ⟨a1, a2⟩ | ⟨a1, a2⟩
      · rw [a2]
        simp (disch := omega) [-hset_if, -Bool.decide_and, hset_ne, a1]
        exact hr.fin rfl (by omega) (fun i hi => by simp (disch := omega) only [hset_ne])
      · rw [a2]
        simp (disch := omega) [-hset_if, -Bool.decide_and, hset_ne]
        repeat' (first | (with_reducible intro _; first | (exfalso; omega) | (simp (disch := omega) [-hset_if, -Bool.decide_and, hset_ne]) | skip) | (with_reducible refine And.intro ?_ ?_; omega) | with_reducible apply cif_dec | with_reducible apply cif_beq | with_reducible apply cif_bne | with_reducible apply cif_var | with_reducible apply gif_dec | with_reducible apply gif_ndec | with_reducible apply gif_beq | with_reducible apply gif_bne | with_reducible apply gif_nbeq | with_reducible apply gif_var)
        all_goals exact hr.fin rfl (by omega) (fun i hi => by simp (disch := omega) only [hset_ne])
    · rw [hN2 hc]
      simp (disch := omega) [-hset_if, -Bool.decide_and, hset_ne]
      exact hr.fin rfl (by omega) (fun i hi => by simp (disch := omega) only [hset_ne])
  · rw [if_neg h0] at hV
    simp (disch := omega) [-hset_if, -Bool.decide_and, hset_ne]
    refine AW.draw (X := ⟨_, 85, _, _⟩) (id := 9) mixed (.take 0 <| .take 1 <| .take 3 <| .each 2 [3] (.take 4 <| .take 5 <| .take 6 <| .take 7 <| .take 8 <| .take 10 <| .each 9 [10] (.take 11 <| .take 12 <| .done) <| .stop) <| .stop) (by kernel_rfl) ?_
    simp (disch := omega) [-hset_if, -Bool.decide_and, hset_ne]
    refine at_ok (hs2 _ _) hD2 hb ?_
    simp (disch := omega) [-hset_if, -Bool.decide_and, hset_ne]
    refine value_ok (hs2 _ _) hD2 hb ?_
    rw [hV]
    simp (disch := omega) [-hset_if, -Bool.decide_and, hset_ne]
    refine next_ok (hs2 _ _) hD2 hb ?_
    simp (disch := omega) [-hset_if, -Bool.decide_and, hset_ne]
    refine checkR_ok (hs2 _ _) hD2 hb hn ?_
    rw [chk_eq]
    simp (disch := omega) [-hset_if, -Bool.decide_and, hset_ne]
    refine cif_bne (fun hc => ?_) (fun hc => ?_)
    · simp (disch := omega) [-hset_if, -Bool.decide_and, hset_ne]
      refine nextR_ok (hs2 _ _) hD2 hb hn ?_
      have hN1 := hN hc
      generalize rnx l t = r at hN1 ⊢
      rcases hN1 with ⟨a1, a2⟩ | ⟨a1, a2⟩
      · rw [a2]
        simp (disch := omega) [-hset_if, -Bool.decide_and, hset_ne, a1]
        exact hr.fin rfl (by omega) (fun i hi => by simp (disch := omega) only [hset_ne])
      · rw [a2]
        simp (disch := omega) [-hset_if, -Bool.decide_and, hset_ne]
        repeat' (first | (with_reducible intro _; first | (exfalso; omega) | (simp (disch := omega) [-hset_if, -Bool.decide_and, hset_ne]) | skip) | (with_reducible refine And.intro ?_ ?_; omega) | with_reducible apply cif_dec | with_reducible apply cif_beq | with_reducible apply cif_bne | with_reducible apply cif_var | with_reducible apply gif_dec | with_reducible apply gif_ndec | with_reducible apply gif_beq | with_reducible apply gif_bne | with_reducible apply gif_nbeq | with_reducible apply gif_var)
        all_goals exact hr.fin rfl (by omega) (fun i hi => by simp (disch := omega) only [hset_ne])
    · rw [hN2 hc]
      simp (disch := omega) [-hset_if, -Bool.decide_and, hset_ne]
      exact hr.fin rfl (by omega) (fun i hi => by simp (disch := omega) only [hset_ne])
end Go.Aw.S34
