/-
  Chapter 46: MediumExclusive, MediumRemembers.
-/
import Derived.Test.YtjjapgagcepmfaaS46h
namespace Go.Aw.S46
open Go.RowKit Go.Proofs Go.Aw.Tab
attribute [local simp] Frame.cells Heard.cells Slot.cells
set_option linter.unusedSimpArgs false
set_option maxRecDepth 10000
set_option maxHeartbeats 1000000
set_option pp.deepTerms false
set_option pp.deepTerms.threshold 4
set_option pp.maxSteps 1500
variable {w0 : World} {n : Nat} {H : Heap} {K : Value → Nat → Heap → Prop} {k : Nat} {v : Value} {D : Nat → Prop} {hs : List Heard} {l : List Slot}
theorem res_at {j : Nat} (h : j < l.length) : at_ (res l) (j : Int) = resolve (at_ l (j : Int)).sent (at_ l (j : Int)).damaged := by
  rw [at_nat (by simpa [res] using h), at_nat h]
  simp [res]
theorem res_len : (res l).length = l.length := by simp [res]
theorem resolve_cases (fs : List Frame) (d : Bool) : (fs.length = 0 ∧ resolve fs d = ⟨0, noFrame⟩) ∨ (fs.length = 1 ∧ d = false ∧ resolve fs d = ⟨1, at_ fs 0⟩) ∨ (fs.length ≠ 0 ∧ ¬ (fs.length = 1 ∧ d = false) ∧ resolve fs d = ⟨2, noFrame⟩) := by
  unfold resolve noFrame
  by_cases h0 : fs.length = 0
  · exact .inl ⟨h0, by rw [if_pos h0]⟩
  · by_cases h1 : fs.length = 1 ∧ d = false
    · exact .inr (.inl ⟨h1.1, h1.2, by rw [if_neg h0, if_pos h1]⟩)
    · exact .inr (.inr ⟨h0, h1, by rw [if_neg h0, if_neg h1]⟩)
theorem smallB_true (h : smallB l = true) : l.length ≤ 60 ∧ ∀ x ∈ l, x.sent.length ≤ 8 := of_decide_eq_true h
theorem exclusive_ok (hl : SlR ⟨Try.prog, w0⟩ H (fun _ => False) 2 Slot.cells v l) (hq : ∀ x ∈ l, ∀ G, SlR ⟨Try.prog, w0⟩ G (fun _ => False) 4 Frame.cells x.val x.sent)
    (hk : ∀ n' H', K (.bool true) n' H') : ACall ⟨Try.prog, w0⟩ 4 [v] K n H := by
  refine ACall.run Try.func4 rfl Try.ntmps4 Try.results4 (by simp) fun J0 => ?_
  simp (disch := omega) [-hset_if, -Bool.decide_and, hset_ne]
  refine awake_ok _ _ _ _ ?_
  simp (disch := omega) [-hset_if, -Bool.decide_and, hset_ne]
  refine small_ok hl hq ?_
  simp (disch := omega) [-hset_if, -Bool.decide_and, hset_ne]
  refine cif_var (fun hsm => ?_) (fun hsm => ?_)
  · simp (disch := omega) [-hset_if, -Bool.decide_and, hset_ne]
    obtain ⟨hb, h8⟩ := smallB_true hsm
    refine run_ok hl hq hb ?_
    intro s D u E n1 H1 p1 p2 p3 p4 p5 p6
    have hl1 : SlR ⟨Try.prog, w0⟩ H1 (fun _ => False) 2 Slot.cells v l := hl.frame (fun _ h => h.elim)
    simp (disch := omega) [-hset_if, -Bool.decide_and, hset_ne, p6.sl.lenK, hl1.lenK, res_len]
    refine AW.while (σ := Nat) (fun j => l.length - j) (fun j => [(0, v), (4, u), (5, .int .i64 j)]) (fun j n2 H2 => j ≤ l.length ∧ n1 ≤ n2 ∧ (∀ i, i < n1 → H2 i = H1 i)) 0 ?_ ?_ ?_
    · simp (disch := omega) [-hset_if, -Bool.decide_and, hset_ne]
    · exact ⟨by omega, by omega, fun _ _ => rfl⟩
    rintro j n2 H2 ⟨g1, g2, g3⟩
    have hl2 : SlR ⟨Try.prog, w0⟩ H2 (fun _ => False) 2 Slot.cells v l := hl.frame (fun _ h => h.elim)
    have hs2 : SlR ⟨Try.prog, w0⟩ H2 E 5 Heard.cells u (res l) := p6.sl.frame (fun i hi => g3 i (p6.lt i hi))
    simp (disch := omega) [-hset_if, -Bool.decide_and, hset_ne, hl2.lenK]
    refine cif_dec (fun h => ?_) (fun h => ?_)
    · have hx : at_ l (j : Int) ∈ l := by rw [at_nat h]; exact List.getElem_mem _
      have hrl := @res_len l
      have hr := res_at h
      have hF := hq _ hx H2
      simp (disch := omega) [-hset_if, -Bool.decide_and, hset_ne, hs2.ix elemS33, hs2.load0 shp27]
      rcases resolve_cases (at_ l (j : Int)).sent (at_ l (j : Int)).damaged with ⟨c1, c2⟩ | ⟨c1, c2, c3⟩ | ⟨c1, c2, c3⟩
      · rw [c2] at hr
        simp (disch := omega) [-hset_if, -Bool.decide_and, hset_ne, hr]
        refine AW.draw (X := ⟨_, 85, _, _⟩) (id := 12) mixed (.take 0 <| .take 1 <| .take 2 <| .take 3 <| .take 4 <| .take 5 <| .take 6 <| .take 7 <| .take 8 <| .take 9 <| .take 10 <| .take 11 <| .take 12 <| .take 13 <| .take 14 <| .take 15 <| .take 16 <| .take 17 <| .take 18 <| .take 19 <| .take 20 <| .take 21 <| .take 22 <| .take 23 <| .take 24 <| .take 25 <| .take 26 <| .take 27 <| .take 28 <| .take 29 <| .take 30 <| .done) (by kernel_rfl) ?_
        simp (disch := omega) [-hset_if, -Bool.decide_and, hset_ne, hl2.ix elemS30, hl2.fresh0 (n := n2) (fun _ h => h.elim), hl2.fresh (n := n2) (fun _ h => h.elim), hl2.load0 shp22, hl2.load shp22, hl2.load shp4, hF.lenK, hF.ix elemS22, hF.fresh0 (n := n2) (fun _ h => h.elim), hF.load0 shp25, c1]
        refine AW.draw (X := ⟨_, 85, _, _⟩) (id := 14) mixed (.take 0 <| .take 1 <| .take 2 <| .take 3 <| .take 4 <| .take 5 <| .take 6 <| .take 7 <| .take 8 <| .take 9 <| .take 10 <| .take 11 <| .take 12 <| .take 13 <| .take 14 <| .take 15 <| .take 16 <| .take 17 <| .take 18 <| .take 19 <| .take 20 <| .take 21 <| .done) (by kernel_rfl) ?_
        simp (disch := omega) [-hset_if, -Bool.decide_and, hset_ne, hl2.ix elemS30, hl2.fresh0 (n := n2) (fun _ h => h.elim), hl2.fresh (n := n2) (fun _ h => h.elim), hl2.load0 shp22, hl2.load shp22, hl2.load shp4, hF.lenK, hF.ix elemS22, hF.fresh0 (n := n2) (fun _ h => h.elim), hF.load0 shp25, noFrame]
        refine cif_beq (fun hz => ?_) (fun hz => ?_)
        all_goals first
          | (exfalso; omega)
          | (simp (disch := omega) [-hset_if, -Bool.decide_and, hset_ne]
             refine Next.mk (j + 1) (by first | omega | (simp only; omega)) (by simp (disch := omega) [-hset_if, -Bool.decide_and, hset_ne]) ⟨by omega, by omega, fun i hi => by simp (disch := omega) [-hset_if, -Bool.decide_and, hset_ne, g3]⟩)
      · rw [c3] at hr
        simp (disch := omega) [-hset_if, -Bool.decide_and, hset_ne, hr]
        refine AW.draw (X := ⟨_, 85, _, _⟩) (id := 12) mixed (.take 0 <| .take 1 <| .take 2 <| .take 3 <| .take 4 <| .take 5 <| .take 6 <| .take 7 <| .take 8 <| .take 9 <| .take 10 <| .take 11 <| .take 12 <| .take 13 <| .take 14 <| .take 15 <| .take 16 <| .take 17 <| .take 18 <| .take 19 <| .take 20 <| .take 21 <| .take 22 <| .take 23 <| .take 24 <| .take 25 <| .take 26 <| .take 27 <| .take 28 <| .take 29 <| .take 30 <| .done) (by kernel_rfl) ?_
        simp (disch := omega) [-hset_if, -Bool.decide_and, hset_ne, hl2.ix elemS30, hl2.fresh0 (n := n2) (fun _ h => h.elim), hl2.fresh (n := n2) (fun _ h => h.elim), hl2.load0 shp22, hl2.load shp22, hl2.load shp4, hF.lenK, hF.ix elemS22, hF.fresh0 (n := n2) (fun _ h => h.elim), hF.load0 shp25, c1, c2]
        refine AW.draw (X := ⟨_, 85, _, _⟩) (id := 14) mixed (.take 0 <| .take 1 <| .take 2 <| .take 3 <| .take 4 <| .take 5 <| .take 6 <| .take 7 <| .take 8 <| .take 9 <| .take 10 <| .take 11 <| .take 12 <| .take 13 <| .take 14 <| .take 15 <| .take 16 <| .take 17 <| .take 18 <| .take 19 <| .take 20 <| .take 21 <| .done) (by kernel_rfl) ?_
        simp (disch := omega) [-hset_if, -Bool.decide_and, hset_ne, hl2.ix elemS30, hl2.fresh0 (n := n2) (fun _ h => h.elim), hl2.fresh (n := n2) (fun _ h => h.elim), hl2.load0 shp22, hl2.load shp22, hl2.load shp4, hF.lenK, hF.ix elemS22, hF.fresh0 (n := n2) (fun _ h => h.elim), hF.load0 shp25, noFrame]
        refine cif_beq (fun hz => ?_) (fun hz => ?_)
        all_goals first
          | (exfalso; omega)
          | (simp (disch := omega) [-hset_if, -Bool.decide_and, hset_ne]
             refine Next.mk (j + 1) (by first | omega | (simp only; omega)) (by simp (disch := omega) [-hset_if, -Bool.decide_and, hset_ne]) ⟨by omega, by omega, fun i hi => by simp (disch := omega) [-hset_if, -Bool.decide_and, hset_ne, g3]⟩)
      · rw [c3] at hr
        simp (disch := omega) [-hset_if, -Bool.decide_and, hset_ne, hr]
        refine AW.draw (X := ⟨_, 85, _, _⟩) (id := 12) mixed (.take 0 <| .take 1 <| .take 2 <| .take 3 <| .take 4 <| .take 5 <| .take 6 <| .take 7 <| .take 8 <| .take 9 <| .take 10 <| .take 11 <| .take 12 <| .take 13 <| .take 14 <| .take 15 <| .take 16 <| .take 17 <| .take 18 <| .take 19 <| .take 20 <| .take 21 <| .take 22 <| .take 23 <| .take 24 <| .take 25 <| .take 26 <| .take 27 <| .take 28 <| .take 29 <| .take 30 <| .done) (by kernel_rfl) ?_
        simp (disch := omega) [-hset_if, -Bool.decide_and, hset_ne, hl2.ix elemS30, hl2.fresh0 (n := n2) (fun _ h => h.elim), hl2.fresh (n := n2) (fun _ h => h.elim), hl2.load0 shp22, hl2.load shp22, hl2.load shp4, hF.lenK, hF.ix elemS22, hF.fresh0 (n := n2) (fun _ h => h.elim), hF.load0 shp25]
        refine AW.draw (X := ⟨_, 85, _, _⟩) (id := 14) mixed (.take 0 <| .take 1 <| .take 2 <| .take 3 <| .take 4 <| .take 5 <| .take 6 <| .take 7 <| .take 8 <| .take 9 <| .take 10 <| .take 11 <| .take 12 <| .take 13 <| .take 14 <| .take 15 <| .take 16 <| .take 17 <| .take 18 <| .take 19 <| .take 20 <| .take 21 <| .done) (by kernel_rfl) ?_
        simp (disch := omega) [-hset_if, -Bool.decide_and, hset_ne, hl2.ix elemS30, hl2.fresh0 (n := n2) (fun _ h => h.elim), hl2.fresh (n := n2) (fun _ h => h.elim), hl2.load0 shp22, hl2.load shp22, hl2.load shp4, hF.lenK, hF.ix elemS22, hF.fresh0 (n := n2) (fun _ h => h.elim), hF.load0 shp25, noFrame]
        refine cif_beq (fun hz => ?_) (fun hz => ?_)
        all_goals first
          | (exfalso; omega)
          | (simp (disch := omega) [-hset_if, -Bool.decide_and, hset_ne]
             refine Next.mk (j + 1) (by first | omega | (simp only; omega)) (by simp (disch := omega) [-hset_if, -Bool.decide_and, hset_ne]) ⟨by omega, by omega, fun i hi => by simp (disch := omega) [-hset_if, -Bool.decide_and, hset_ne, g3]⟩)
    · simp (disch := omega) [-hset_if, -Bool.decide_and, hset_ne]
      exact Fin_id (hk _ _)
  · simp (disch := omega) [-hset_if, -Bool.decide_and, hset_ne]
    exact Fin_id (hk _ _)
end Go.Aw.S46
