/-
  Chapter 15: InterlockSteps.
-/
import Derived.Test.YtmgadjflgiokeaaS15n
namespace Go.Aw.S15
open Go.RowKit Go.Proofs Go.Aw.Tab
set_option linter.unusedSimpArgs false
set_option linter.unusedVariables false
set_option maxRecDepth 10000
set_option maxHeartbeats 1000000
set_option pp.deepTerms false
set_option pp.deepTerms.threshold 4
set_option pp.maxSteps 1500
attribute [local simp] Req.cells
variable {w0 : World} {n : Nat} {H : Heap} {K : Value → Nat → Heap → Prop}
variable {pv av : Value} {nm : ByteArray} {ps : List ByteArray} {rs : List Req} {dead on left now : Int}
theorem winnerR_tup {np : Nat} : ∃ a e, winnerR np dead on left rs = .tuple #[.int .i64 a, .int .i64 e] := by
  unfold winnerR; split <;> exact ⟨_, _, rfl⟩
theorem stepR_tup {np : Nat} : ∃ x y e, stepR np dead on left rs now = .tuple #[.agg #[.int .i64 x, .int .i64 y], .int .i64 e] := by
  unfold stepR
  split
  · obtain ⟨x, y, h⟩ := stepS_agg dead on left now rs
    rw [h]; exact ⟨_, _, _, rfl⟩
  · exact ⟨_, _, _, rfl⟩
theorem waitR_tup {np : Nat} : ∃ x y e, waitR np dead on left rs now = .tuple #[.int .i64 x, .int .i64 y, .int .i64 e] := by
  unfold waitR
  split
  · split
    · exact ⟨_, _, _, rfl⟩
    · split <;> exact ⟨_, _, _, rfl⟩
  · exact ⟨_, _, _, rfl⟩
theorem small_ok (hp : ∀ G, SlR ⟨Try.prog, w0⟩ G (fun _ => False) 1 strC pv ps) (hs : ∀ G, SlR ⟨Try.prog, w0⟩ G (fun _ => False) 3 Req.cells av rs)
    (hk : K (.bool (decide ((ps.length : Int) ≤ 20) && decide ((rs.length : Int) ≤ 20))) n H) : ACall ⟨Try.prog, w0⟩ 11 [.agg #[.string nm, pv, .int .i64 dead], av] K n H := by
  have hpc := (hp H).cells
  refine ACall.go Try.func11 rfl Try.ntmps11 Try.results11 (by simp) fun hU hu J0 => ?_
  simp (disch := omega) [-hset_if, -Bool.decide_and, hset_ne, hpc, (hp H).lenK, (hp _).lenK]
  refine gif_dec (fun h => ?_) (fun h => ?_)
  · simp (disch := omega) [-hset_if, -Bool.decide_and, hset_ne, (hs H).lenK, (hs _).lenK]
    refine Fin.same hU (by simp) (by omega) (fun i hi => by simp (disch := omega) only [hset_ne]) ?_
    simpa [h] using hk
  · simp (disch := omega) [-hset_if, -Bool.decide_and, hset_ne]
    refine Fin.same hU (by simp) (by omega) (fun i hi => by simp (disch := omega) only [hset_ne]) ?_
    simpa [h] using hk
theorem steps_ok (hp : ∀ G, SlR ⟨Try.prog, w0⟩ G (fun _ => False) 1 strC pv ps) (hs : ∀ G, SlR ⟨Try.prog, w0⟩ G (fun _ => False) 3 Req.cells av rs) (hb : rs.length < 9223372036854775808)
    (hk : ∀ n' H', K (.bool true) n' H') : ACall ⟨Try.prog, w0⟩ 3 [.agg #[.string nm, pv, .int .i64 dead], .int .i64 on, .int .i64 left, av, .int .i64 now] K n H := by
  have hpc := (hp H).cells
  have hsc := (hs H).cells
  refine ACall.code Try.func3 rfl Try.ntmps3 Try.results3 (by simp) fun J0 => ?_
  refine AW.ev ?_
  simp (disch := omega) [-hset_if, -Bool.decide_and, hset_ne, hpc, hsc]
  refine awake_ok ?_
  intro n1 H1 a1 a2
  simp (disch := omega) [-hset_if, -Bool.decide_and, hset_ne, hpc, hsc, a2]
  refine small_ok hp hs ?_
  simp (disch := omega) [-hset_if, -Bool.decide_and, hset_ne]
  refine cif_var (fun hsm => ?_) (fun hsm => ?_)
  · simp (disch := omega) [-hset_if, -Bool.decide_and, hset_ne]
    refine Fin_id (hk _ _)
  simp (disch := omega) [-hset_if, -Bool.decide_and, hset_ne, hpc, hsc, a2]
  have hb' : rs.length < 9223372036854775807 := by simp at hsm; omega
  obtain ⟨x1, x2, hx⟩ := @winnerR_tup rs dead on left ps.length
  obtain ⟨y1, y2, y3, hy⟩ := @stepR_tup rs dead on left now ps.length
  obtain ⟨z1, z2, z3, hz⟩ := @waitR_tup rs dead on left now ps.length
  refine Winner_ok (hp _) (hs _) (fun _ h => h.elim) (fun _ h => h.elim) hb' ?_
  intro n3 H3 b1 b2
  rw [hx]
  simp (disch := omega) [-hset_if, -Bool.decide_and, hset_ne, hpc, hsc, b2, a2]
  refine WinnerR_ok (hp _) (hs _) (fun _ h => h.elim) (fun _ h => h.elim) hb' ?_
  intro n4 H4 c1 c2
  rw [hx]
  simp (disch := omega) [-hset_if, -Bool.decide_and, hset_ne, hpc, hsc, c2, b2, a2]
  refine Step_ok (hp _) (hs _) (fun _ h => h.elim) (fun _ h => h.elim) hb' ?_
  intro n5 H5 d1 d2
  rw [hy]
  simp (disch := omega) [-hset_if, -Bool.decide_and, hset_ne, hpc, hsc, d2, c2, b2, a2]
  refine StepR_ok (hp _) (hs _) (fun _ h => h.elim) (fun _ h => h.elim) hb' ?_
  intro n6 H6 e1 e2
  rw [hy]
  simp (disch := omega) [-hset_if, -Bool.decide_and, hset_ne, hpc, hsc, e2, d2, c2, b2, a2]
  refine Waiting_ok (hp _) (hs _) (fun _ h => h.elim) (fun _ h => h.elim) hb' ?_
  intro n7 H7 f1 f2
  rw [hz]
  simp (disch := omega) [-hset_if, -Bool.decide_and, hset_ne, hpc, hsc, f2, e2, d2, c2, b2, a2]
  refine WaitingR_ok (hp _) (hs _) (fun _ h => h.elim) (fun _ h => h.elim) hb' ?_
  intro n8 H8 g1 g2
  rw [hz]
  simp (disch := omega) [-hset_if, -Bool.decide_and, hset_ne, hpc, hsc, g2, f2, e2, d2, c2, b2, a2]
  refine start_ok ?_
  intro n9 H9 h1 h2
  simp (disch := omega) [-hset_if, -Bool.decide_and, hset_ne]
  refine Fin_id (hk _ _)
end Go.Aw.S15
