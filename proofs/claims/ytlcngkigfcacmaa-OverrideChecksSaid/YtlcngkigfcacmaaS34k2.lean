/-
  Chapter 34: the statement OverrideChecks.
-/
import Derived.Test.YtlcngkigfcacmaaS34k
namespace Go.Aw.S34
open Go.RowKit Go.Proofs Go.Aw.Tab
set_option linter.unusedSimpArgs false
set_option linter.unusedVariables false
set_option maxRecDepth 10000
set_option maxHeartbeats 1000000
set_option pp.deepTerms false
set_option pp.deepTerms.threshold 4
set_option pp.maxSteps 1500
attribute [local simp] Hold.cells intC range_get Pc.cells
variable {w0 : World} {n : Nat} {H : Heap} {K : Value → Nat → Heap → Prop} {s : ByteArray} {pv : Value} {D : Nat → Prop} {l : List Hold} {t fr to : Int}
theorem checksLaw_ok (hs : SlR ⟨Try.prog, w0⟩ H D 6 Hold.cells pv l) (hD : ∀ i, D i → i < n) (hr : Res n H K (.bool true)) :
    ACall ⟨Try.prog, w0⟩ 9 [pv, .int .i64 t] K n H := by
  refine ACall.run Try.func9 rfl Try.ntmps9 Try.results9 (by simp) fun J0 => ?_
  simp (disch := omega) [-hset_if, -Bool.decide_and, hset_ne]
  refine awake_ok ?_
  simp (disch := omega) [-hset_if, -Bool.decide_and, hset_ne]
  refine few_ok hs hD ?_
  simp (disch := omega) [-hset_if, -Bool.decide_and, hset_ne]
  refine cif_var (fun hf => ?_) (fun hf => ?_)
  rotate_left
  · simp (disch := omega) [-hset_if, -Bool.decide_and, hset_ne]
    exact hr.fin rfl (by omega) (fun i hi => by simp (disch := omega) only [hset_ne])
  have hn := few_nm hf
  have hb := few_len hf
  simp (disch := omega) [-hset_if, -Bool.decide_and, hset_ne]
  refine checkR_ok hs hD hb hn ?_
  rw [chk_eq]
  simp (disch := omega) [-hset_if, -Bool.decide_and, hset_ne]
  refine check_ok hs hD hb ?_
  simp (disch := omega) [-hset_if, -Bool.decide_and, hset_ne]
  refine cif_beq (fun hc => ?_) (fun hc => ?_)
  · simp (disch := omega) [-hset_if, -Bool.decide_and, hset_ne]
    exact hr.fin rfl (by omega) (fun i hi => by simp (disch := omega) only [hset_ne])
  simp (disch := omega) [-hset_if, -Bool.decide_and, hset_ne]
  have hN : nxtP l t = (0, chk l) := if_neg hc
  have hA : atC (chk l) l t = -1 := if_neg hc
  have hV : ∀ a b, valP l t a b = (a, b) := fun a b => by unfold valP; rw [hA]; rfl
  have hs1 := fun o => hs.frame (H' := hset n o H) (fun i hi => by have := hD i hi; rw [hset_ne (by omega)])
  have hD1 : ∀ i, D i → i < n + 1 := fun i hi => by have := hD i hi; omega
  refine pieces_no (hs1 _) hD1 hb hc ?_
  simp (disch := omega) [-hset_if, -Bool.decide_and, hset_ne]
  refine next_ok (hs1 _) hD1 hb ?_
  rw [hN]
  simp (disch := omega) [-hset_if, -Bool.decide_and, hset_ne]
  refine add_no ⟨⟨#[]⟩, 0, 0, 0, 0, 0⟩ (hs1 _) hD1 hb hc ?_
  simp (disch := omega) [-hset_if, -Bool.decide_and, hset_ne]
  refine remove_no (hs1 _) hD1 hb hc ?_
  simp (disch := omega) [-hset_if, -Bool.decide_and, hset_ne]
  refine AW.draw (X := ⟨_, 109, _, _⟩) (id := 15) mixed (.take 0 <| .take 1 <| .take 2 <| .take 3 <| .take 4 <| .take 5 <| .take 6 <| .take 7 <| .take 8 <| .take 9 <| .take 10 <| .take 11 <| .take 12 <| .take 13 <| .take 14 <| .take 15 <| .take 16 <| .take 17 <| .take 18 <| .take 19 <| .take 20 <| .take 21 <| .take 22 <| .take 23 <| .take 24 <| .take 25 <| .take 26 <| .take 27 <| .take 28 <| .take 29 <| .take 30 <| .take 31 <| .take 32 <| .take 33 <| .take 34 <| .take 35 <| .take 36 <| .take 37 <| .take 38 <| .take 39 <| .each 40 [] (.take 41 <| .take 42 <| .take 43 <| .take 44 <| .take 45 <| .take 46 <| .take 48 <| .each 47 [48] (.take 49 <| .take 50 <| .take 51 <| .take 52 <| .take 53 <| .each 54 [] (.take 55 <| .take 56 <| .take 57 <| .take 58 <| .done) <| .stop) <| .stop) <| .stop) (by kernel_rfl) ?_
  simp (disch := omega) [-hset_if, -Bool.decide_and, hset_ne]
  refine at_ok (hs1 _) hD1 hb ?_
  rw [hA]
  simp (disch := omega) [-hset_if, -Bool.decide_and, hset_ne]
  refine value_ok (hs1 _) hD1 hb ?_
  rw [hV]
  simp (disch := omega) [-hset_if, -Bool.decide_and, hset_ne]
  refine expire_no (hs1 _) hD1 hb hc ?_
  simp (disch := omega) [-hset_if, -Bool.decide_and, hset_ne]
  exact hr.fin rfl (by omega) (fun i hi => by simp (disch := omega) only [hset_ne])
end Go.Aw.S34
