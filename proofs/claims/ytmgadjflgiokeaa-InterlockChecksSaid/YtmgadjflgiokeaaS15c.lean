/-
  Chapter 15: winner, Winner, timely, Start.
-/
import Derived.Test.YtmgadjflgiokeaaS15b
namespace Go.Aw.S15
open Go.RowKit Go.Proofs Go.Aw.Tab
set_option linter.unusedSimpArgs false
set_option linter.unusedVariables false
set_option maxRecDepth 10000
set_option maxHeartbeats 1000000
set_option pp.deepTerms false
set_option pp.deepTerms.threshold 4
set_option pp.maxSteps 1500
attribute [local simp] Req.cells
@[local simp] theorem range_get {i n : Nat} (h : i < n) : (List.range n)[i]? = some i := by simp [h]
variable {w0 : World} {n : Nat} {H : Heap} {K : Value → Nat → Heap → Prop}
def win (on : Int) (rs : List Req) : Int :=
  if 0 ≤ first on rs 1 1 then first on rs 1 1 else if 0 ≤ first on rs 2 2 then first on rs 2 2 else if 0 ≤ first on rs 1 17 then first on rs 1 17
  else if 0 ≤ on ∧ asksB (at_ rs on) = true then on else -1
theorem winner_ok {av : Value} {D : Nat → Prop} {rs : List Req} {on : Int} (hs : SlR ⟨Try.prog, w0⟩ H D 3 Req.cells av rs) (hD : ∀ i, D i → i < n) (h1 : on < rs.length) (hb : rs.length < 9223372036854775807)
    (hk : ∀ n' H', n ≤ n' → (∀ i, i < n → H' i = H i) → K (.int .i64 (win on rs)) n' H') : ACall ⟨Try.prog, w0⟩ 36 [.int .i64 on, av] K n H := by
  have hsc := hs.cells
  refine ACall.run Try.func36 rfl Try.ntmps36 Try.results36 (by simp) fun J0 => ?_
  simp (disch := omega) [-hset_if, -Bool.decide_and, hset_ne]
  refine AW.rounds 4 ?_
  simp (disch := omega) [-hset_if, -Bool.decide_and, hset_ne]
  refine first_ok (rs := rs) (on := on) (hs.frame (fun i hi => by have := hD i hi; simp (disch := omega) [-hset_if, -Bool.decide_and, hset_ne, hsc])) (fun i hi => by have := hD i hi; omega) (by simp (disch := omega) [-hset_if, -Bool.decide_and, hset_ne, hsc]) (by simp (disch := omega) [-hset_if, -Bool.decide_and, hset_ne, hsc]) (by simp (disch := omega) [-hset_if, -Bool.decide_and, hset_ne, hsc]) (by omega) (by omega) (by omega) h1 hb ?_
  intro n1 H1 a1 a2
  simp (disch := omega) [-hset_if, -Bool.decide_and, hset_ne]
  refine cif_dec (fun c1 => ?_) (fun c1 => ?_)
  · simp (disch := omega) [-hset_if, -Bool.decide_and, hset_ne]
    refine Fin_id ?_
    rw [win, if_pos c1] at hk
    exact hk _ _ (by omega) (fun i hi => by simp (disch := omega) [-hset_if, -Bool.decide_and, hset_ne, hsc, a2])
  simp (disch := omega) [-hset_if, -Bool.decide_and, hset_ne, hsc, a2]
  refine first_ok (rs := rs) (on := on) (hs.frame (fun i hi => by have := hD i hi; simp (disch := omega) [-hset_if, -Bool.decide_and, hset_ne, hsc, a2])) (fun i hi => by have := hD i hi; omega) (by simp (disch := omega) [-hset_if, -Bool.decide_and, hset_ne, hsc, a2]) (by simp (disch := omega) [-hset_if, -Bool.decide_and, hset_ne, hsc, a2]) (by simp (disch := omega) [-hset_if, -Bool.decide_and, hset_ne, hsc, a2]) (by omega) (by omega) (by omega) h1 hb ?_
  intro n2 H2 b1 b2
  simp (disch := omega) [-hset_if, -Bool.decide_and, hset_ne]
  refine cif_dec (fun c2 => ?_) (fun c2 => ?_)
  · simp (disch := omega) [-hset_if, -Bool.decide_and, hset_ne]
    refine Fin_id ?_
    rw [win, if_neg c1, if_pos c2] at hk
    exact hk _ _ (by omega) (fun i hi => by simp (disch := omega) [-hset_if, -Bool.decide_and, hset_ne, hsc, b2, a2])
  simp (disch := omega) [-hset_if, -Bool.decide_and, hset_ne, hsc, a2, b2]
  refine first_ok (rs := rs) (on := on) (hs.frame (fun i hi => by have := hD i hi; simp (disch := omega) [-hset_if, -Bool.decide_and, hset_ne, hsc, b2, a2])) (fun i hi => by have := hD i hi; omega) (by simp (disch := omega) [-hset_if, -Bool.decide_and, hset_ne, hsc, b2, a2]) (by simp (disch := omega) [-hset_if, -Bool.decide_and, hset_ne, hsc, b2, a2]) (by simp (disch := omega) [-hset_if, -Bool.decide_and, hset_ne, hsc, b2, a2]) (by omega) (by omega) (by omega) h1 hb ?_
  intro n3 H3 d1 d2
  simp (disch := omega) [-hset_if, -Bool.decide_and, hset_ne]
  refine cif_dec (fun c3 => ?_) (fun c3 => ?_)
  · simp (disch := omega) [-hset_if, -Bool.decide_and, hset_ne]
    refine Fin_id ?_
    rw [win, if_neg c1, if_neg c2, if_pos c3] at hk
    exact hk _ _ (by omega) (fun i hi => by simp (disch := omega) [-hset_if, -Bool.decide_and, hset_ne, hsc, d2, b2, a2])
  simp (disch := omega) [-hset_if, -Bool.decide_and, hset_ne, hsc, d2, a2, b2]
  refine gif_dec (fun c4 => ?_) (fun c4 => ?_)
  · simp (disch := omega) [-hset_if, -Bool.decide_and, hset_ne, hsc, d2, a2, b2]
    refine asking_ok (rs := rs) (hs.frame (fun i hi => by have := hD i hi; simp (disch := omega) [-hset_if, -Bool.decide_and, hset_ne, hsc, d2, b2, a2])) (by simp (disch := omega) [-hset_if, -Bool.decide_and, hset_ne, hsc, d2, b2, a2]) c4 h1 ?_
    simp (disch := omega) [-hset_if, -Bool.decide_and, hset_ne]
    refine cif_var (fun c5 => ?_) (fun c5 => ?_)
    · simp (disch := omega) [-hset_if, -Bool.decide_and, hset_ne, hsc, d2, a2, b2]
      refine Fin_id ?_
      rw [win, if_neg c1, if_neg c2, if_neg c3, if_pos ⟨c4, c5⟩] at hk
      exact hk _ _ (by omega) (fun i hi => by simp (disch := omega) [-hset_if, -Bool.decide_and, hset_ne, hsc, d2, b2, a2])
    · simp (disch := omega) [-hset_if, -Bool.decide_and, hset_ne, hsc, d2, a2, b2]
      refine Fin_id ?_
      rw [win, if_neg c1, if_neg c2, if_neg c3, if_neg (fun hc => by rw [hc.2] at c5; cases c5)] at hk
      exact hk _ _ (by omega) (fun i hi => by simp (disch := omega) [-hset_if, -Bool.decide_and, hset_ne, hsc, d2, b2, a2])
  · simp (disch := omega) [-hset_if, -Bool.decide_and, hset_ne, hsc, d2, a2, b2]
    refine Fin_id ?_
    rw [win, if_neg c1, if_neg c2, if_neg c3, if_neg (fun hc => c4 hc.1)] at hk
    exact hk _ _ (by omega) (fun i hi => by simp (disch := omega) [-hset_if, -Bool.decide_and, hset_ne, hsc, d2, b2, a2])
end Go.Aw.S15
