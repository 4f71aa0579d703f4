/-
  Chapter 34: the statement OverrideChecks.
-/
import Derived.Test.YtlcngkigfcacmaaS34j
namespace Go.Aw.S34
open Go.RowKit Go.Proofs Go.Aw.Tab
set_option linter.unusedSimpArgs false
set_option linter.unusedVariables false
set_option maxRecDepth 10000
set_option maxHeartbeats 1000000
set_option pp.deepTerms false
set_option pp.deepTerms.threshold 4
set_option pp.maxSteps 1500
attribute [local simp] Hold.cells intC range_get Pc.cells
variable {w0 : World} {n : Nat} {H : Heap} {K : Value → Nat → Heap → Prop} {s : ByteArray} {pv : Value} {D : Nat → Prop} {l : List Hold} {t fr to : Int}
theorem add_no (x : Hold) (hs : SlR ⟨Try.prog, w0⟩ H D 6 Hold.cells pv l) (hD : ∀ i, D i → i < n) (hb : l.length < 4611686018427387904) (hc : chk l ≠ 0) (hk : K (.tuple #[.slice none 0 0, .int .i64 (chk l)]) n H) :
    ACall ⟨Try.prog, w0⟩ 22 [pv, .agg x.cells.toArray] K n H := by
  refine ACall.res (fun K' hr => ?_) (und_tuple (by simp)) hk
  refine ACall.run Try.func22 rfl Try.ntmps22 Try.results22 (by simp) fun J0 => ?_
  simp (disch := omega) [-hset_if, -Bool.decide_and, hset_ne]
  refine check_ok (hs.frame (fun i hi => by have := hD i hi; rw [hset_ne (by omega)])) (fun i hi => by have := hD i hi; omega) hb ?_
  simp (disch := omega) [-hset_if, -Bool.decide_and, hset_ne]
  refine cif_bne (fun h0 => ?_) (fun h0 => ?_)
  · exact absurd h0 hc
  · simp (disch := omega) [-hset_if, -Bool.decide_and, hset_ne]
    exact hr.fin rfl (by omega) (fun i hi => by simp (disch := omega) only [hset_ne])
theorem remove_no (hs : SlR ⟨Try.prog, w0⟩ H D 6 Hold.cells pv l) (hD : ∀ i, D i → i < n) (hb : l.length < 4611686018427387904) (hc : chk l ≠ 0) (hk : K (.tuple #[.slice none 0 0, .int .i64 (chk l)]) n H) :
    ACall ⟨Try.prog, w0⟩ 23 [pv, .string s] K n H := by
  refine ACall.res (fun K' hr => ?_) (und_tuple (by simp)) hk
  refine ACall.run Try.func23 rfl Try.ntmps23 Try.results23 (by simp) fun J0 => ?_
  simp (disch := omega) [-hset_if, -Bool.decide_and, hset_ne]
  refine check_ok (hs.frame (fun i hi => by have := hD i hi; rw [hset_ne (by omega)])) (fun i hi => by have := hD i hi; omega) hb ?_
  simp (disch := omega) [-hset_if, -Bool.decide_and, hset_ne]
  refine cif_bne (fun h0 => ?_) (fun h0 => ?_)
  · exact absurd h0 hc
  · simp (disch := omega) [-hset_if, -Bool.decide_and, hset_ne]
    exact hr.fin rfl (by omega) (fun i hi => by simp (disch := omega) only [hset_ne])
theorem expire_no (hs : SlR ⟨Try.prog, w0⟩ H D 6 Hold.cells pv l) (hD : ∀ i, D i → i < n) (hb : l.length < 4611686018427387904) (hc : chk l ≠ 0) (hk : K (.slice none 0 0) n H) :
    ACall ⟨Try.prog, w0⟩ 21 [pv, .int .i64 t] K n H := by
  refine ACall.res (fun K' hr => ?_) (by simp) hk
  refine ACall.run Try.func21 rfl Try.ntmps21 Try.results21 (by simp) fun J0 => ?_
  simp (disch := omega) [-hset_if, -Bool.decide_and, hset_ne]
  refine check_ok (hs.frame (fun i hi => by have := hD i hi; rw [hset_ne (by omega)])) (fun i hi => by have := hD i hi; omega) hb ?_
  simp (disch := omega) [-hset_if, -Bool.decide_and, hset_ne]
  refine cif_bne (fun h0 => ?_) (fun h0 => ?_)
  · exact absurd h0 hc
  · simp (disch := omega) [-hset_if, -Bool.decide_and, hset_ne]
    exact hr.fin rfl (by omega) (fun i hi => by simp (disch := omega) only [hset_ne])
theorem pieces_no (hs : SlR ⟨Try.prog, w0⟩ H D 6 Hold.cells pv l) (hD : ∀ i, D i → i < n) (hb : l.length < 4611686018427387904) (hc : chk l ≠ 0) (hk : K (.tuple #[.slice none 0 0, .int .i64 (chk l)]) n H) :
    ACall ⟨Try.prog, w0⟩ 12 [pv, .int .i64 fr, .int .i64 to] K n H := by
  refine ACall.res (fun K' hr => ?_) (und_tuple (by simp)) hk
  refine ACall.run Try.func12 rfl Try.ntmps12 Try.results12 (by simp) fun J0 => ?_
  simp (disch := omega) [-hset_if, -Bool.decide_and, hset_ne]
  refine check_ok hs hD hb ?_
  simp (disch := omega) [-hset_if, -Bool.decide_and, hset_ne]
  refine cif_bne (fun h0 => ?_) (fun h0 => ?_)
  · exact absurd h0 hc
  · simp (disch := omega) [-hset_if, -Bool.decide_and, hset_ne]
    exact hr.fin rfl (by omega) (fun i hi => by simp (disch := omega) only [hset_ne])
end Go.Aw.S34
