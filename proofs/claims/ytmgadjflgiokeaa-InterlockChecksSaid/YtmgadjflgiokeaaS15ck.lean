/-
  Chapter 15: the law InterlockChecks.
-/
import Derived.Test.YtmgadjflgiokeaaS15n
import Derived.Test.YtmgadjflgiokeaaS15ci
import Derived.Test.YtmgadjflgiokeaaS15cj
namespace Go.Aw.S15
open Go.RowKit Go.Proofs Go.Aw.Tab
set_option linter.unusedSimpArgs false
set_option linter.unusedVariables false
set_option maxRecDepth 10000
set_option maxHeartbeats 2000000
set_option pp.deepTerms false
set_option pp.deepTerms.threshold 4
set_option pp.maxSteps 1500
attribute [local simp] Gr.cells Pt.cells strC
variable {w0 : World} {n : Nat} {H : Heap} {K : Value → Nat → Heap → Prop} {gs : List Gr} {pts : List Pt} {s : ByteArray}
theorem small_grs {gv : Value} (hs : ∀ G, SlR ⟨Try.prog, w0⟩ G (fun _ => False) 3 Gr.cells gv gs) (hg : ∀ x ∈ gs, GrOk w0 x) (h : smallB gs = true) (G : Heap) : GrsR G w0 (fun _ => False) gv gs ∧ gs.length ≤ 20 ∧ ∀ g ∈ gs, g.ps.length ≤ 20 := by
  unfold smallB at h
  rw [Bool.and_eq_true, decide_eq_true_eq, List.all_eq_true] at h
  have h2 : ∀ g ∈ gs, g.ps.length ≤ 20 := fun g hg => by simpa using h.2 g hg
  exact ⟨⟨hs G, fun g hm => (hg g hm).1 G, by omega, fun g hm => by have := h2 g hm; omega⟩, h.1, h2⟩
theorem checksLaw_ok {pv gv : Value} (hp : ∀ G, SlR ⟨Try.prog, w0⟩ G (fun _ => False) 12 Pt.cells pv pts) (hst : ∀ x ∈ pts, x.sv.oneCell' = true) (hs : ∀ G, SlR ⟨Try.prog, w0⟩ G (fun _ => False) 3 Gr.cells gv gs) (hg : ∀ x ∈ gs, GrOk w0 x)
    (hlb : gs.length ≤ 9223372036854775807) (hk : ∀ n' H', K (.bool true) n' H') : ACall ⟨Try.prog, w0⟩ 9 [pv, gv, .string s] K n H := by
  have hpc := (hp H).cells
  have hgc := (hs H).cells
  have hpl := (hp H).lenK
  refine ACall.code Try.func9 rfl Try.ntmps9 Try.results9 (by simp) fun J0 => ?_
  refine AW.ev ?_
  simp (disch := omega) [-hset_if, -Bool.decide_and, hset_ne, hpc, hgc]
  refine awake_ok ?_
  intro n1 H1 a1 a2
  simp (disch := omega) [-hset_if, -Bool.decide_and, hset_ne, hpc, hgc]
  refine Small_ok (hs _) (fun g hm => (hg g hm).1 _) hlb ?_
  cases hsm : smallB gs with
  | false =>
    simp (disch := omega) [-hset_if, -Bool.decide_and, hset_ne]
    refine Fin_id ?_
    exact hk _ _
  | true =>
  obtain ⟨_, hl, hgl⟩ := small_grs hs hg hsm H1
  have hG := fun G => (small_grs hs hg hsm G).1
  simp (disch := omega) [-hset_if, -Bool.decide_and, hset_ne, hpc, hgc, hpl]
  by_cases h1 : 40 < pts.length
  · have h2 : (40 : Int) < (pts.length : Int) := by omega
    simp (disch := omega) [-hset_if, -Bool.decide_and, hset_ne, h1, h2]
    refine Fin_id ?_
    exact hk _ _
  have h2 : ¬ (40 : Int) < (pts.length : Int) := by omega
  have hP : ∀ G, PtsR G w0 (fun _ => False) pv pts := fun G => ⟨hp G, hst, by omega⟩
  simp (disch := omega) [-hset_if, -Bool.decide_and, hset_ne, h1, h2, hpc, hgc]
  refine Find_ok (hG _) (fun _ h => h.elim) ?_
  intro n2 H2 b1 b2
  obtain ⟨⟨a, b, e⟩, hfe⟩ : ∃ x, findG gs s = x := ⟨_, rfl⟩
  rw [hfe]
  simp (disch := omega) [-hset_if, -Bool.decide_and, hset_ne]
  refine RFind_ok (hG _) ?_
  rw [hfe]
  simp (disch := omega) [-hset_if, -Bool.decide_and, hset_ne]
  refine Check_ok (hP _) (hG _) (fun _ h => h.elim) (fun _ h => h.elim) hl hgl ?_
  simp (disch := omega) [-hset_if, -Bool.decide_and, hset_ne]
  refine RCheck_ok (hP _) (hG _) (fun _ h => h.elim) (fun _ h => h.elim) ?_
  simp (disch := omega) [-hset_if, -Bool.decide_and, hset_ne]
  refine Fin_id ?_
  exact hk _ _
end Go.Aw.S15
