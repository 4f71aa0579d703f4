/-
  Chapter 15: Check.
-/
import Derived.Test.YtmgadjflgiokeaaS15ce
namespace Go.Aw.S15
open Go.RowKit Go.Proofs Go.Aw.Tab
set_option linter.unusedSimpArgs false
set_option linter.unusedVariables false
set_option maxRecDepth 10000
set_option maxHeartbeats 1000000
set_option pp.deepTerms false
set_option pp.deepTerms.threshold 4
set_option pp.maxSteps 1500
attribute [local simp] Gr.cells Pt.cells strC
variable {w0 : World} {n : Nat} {H : Heap} {K : Value → Nat → Heap → Prop} {D E : Nat → Prop} {gs : List Gr} {pts : List Pt}
def manyB (gs : List Gr) : Bool := decide ((16 : Int) < gs.length) || gs.any fun g => decide ((16 : Int) < g.ps.length)
def badN (gs : List Gr) : Bool := (gs.any fun g => !(nameB g.nm)) || gs.any fun g => g.ps.any fun s => !(nameB s)
def badD (gs : List Gr) : Bool := gs.any fun g => !(deadB g.dd)
def fewB (gs : List Gr) : Bool := gs.any fun g => decide ((g.ps.length : Int) < 2)
def unkB (pts : List Pt) (gs : List Gr) : Bool := gs.any fun g => g.ps.any fun s => decide (findPt pts s < 0)
def typB (pts : List Pt) (gs : List Gr) : Bool := gs.any fun g => g.ps.any (typeBad pts)
/-- The first error, or 0. -/
def checkG (pts : List Pt) (gs : List Gr) : Int :=
  if manyB gs then 7 else if badN gs then 4 else if badD gs then 6 else if fewB gs then 1 else if twiceP gs then 5 else if unkB pts gs then 3 else if typB pts gs then 11 else 0
structure ChI (H0 H : Heap) (n n2 : Nat) (pv gv : Value) : Prop where
  bp : H n = .cells [pv] 71 1
  bg : H (n + 1) = .cells [gv] 72 1
  bf : H (n + 2) = .cells [.func (.func 52) #[] #[.pointer (some ⟨new n, 0, none⟩)]] 102 1
  fr : ∀ i, i < n → H i = H0 i
  le : n + 3 ≤ n2
theorem ChI.al {H0 H H' : Heap} {n2 n3 : Nat} {pv gv : Value} (h : ChI H0 H n n2 pv gv) (h1 : n2 ≤ n3) (h2 : ∀ i, i < n2 → H' i = H i) : ChI H0 H' n n3 pv gv := by
  have hle := h.le
  exact ⟨by rw [h2 _ (by omega)]; exact h.bp, by rw [h2 _ (by omega)]; exact h.bg, by rw [h2 _ (by omega)]; exact h.bf, fun i hi => by rw [h2 i (by omega), h.fr i hi], by omega⟩
theorem Check_ok {pv gv : Value} (hp : PtsR H w0 D pv pts) (hs : GrsR H w0 E gv gs) (hD : ∀ i, D i → i < n) (hE : ∀ i, E i → i < n) (hl : gs.length ≤ 20) (hpl : ∀ g ∈ gs, g.ps.length ≤ 20) (hk : K (.int .i64 (checkG pts gs)) n H) : ACall ⟨Try.prog, w0⟩ 32 [pv, gv] K n H := by
  refine ACall.res (fun K' hr => ?_) (by simp) hk
  have e59 : entB Try.prog 59 = true := by kernel_rfl
  have e60 : entB Try.prog 60 = true := by kernel_rfl
  have e61 : entB Try.prog 61 = true := by kernel_rfl
  have e62 : entB Try.prog 62 = true := by kernel_rfl
  have e63 : entB Try.prog 63 = true := by kernel_rfl
  have e65 : entB Try.prog 65 = true := by kernel_rfl
  have e66 : entB Try.prog 66 = true := by kernel_rfl
  have e55 : entB Try.prog 55 = true := by kernel_rfl
  have hpc := hp.sl.cells
  have hgc := hs.sl.cells
  have hpo := hp.sl.one
  have hgo := hs.sl.one
  refine ACall.run Try.func32 rfl Try.ntmps32 Try.results32 (by simp) fun J0 => ?_
  simp (disch := omega) [-hset_if, -Bool.decide_and, hset_ne, hpc, hgc, hpo, hgo]
  have c1 : ChI H (hset (n + 2) (.cells [.func (.func 52) #[] #[.pointer (some ⟨new n, 0, none⟩)]] 102 1) (hset (n + 1) (.cells [gv] 72 1) (hset n (.cells [pv] 71 1) H))) n (n + 3) pv gv := ⟨by simp (disch := omega) [-hset_if, -Bool.decide_and, hset_ne], by simp (disch := omega) [-hset_if, -Bool.decide_and, hset_ne], by simp (disch := omega) [-hset_if, -Bool.decide_and, hset_ne], (fun i hi => by simp (disch := omega) only [hset_ne]), by omega⟩
  generalize hset (n + 2) (.cells [.func (.func 52) #[] #[.pointer (some ⟨new n, 0, none⟩)]] 102 1) (hset (n + 1) (.cells [gv] 72 1) (hset n (.cells [pv] 71 1) H)) = H1 at *
  have bp1 := c1.bp
  have bg1 := c1.bg
  have bf1 := c1.bf
  have hp1 := hp.frame (fun i hi => c1.fr i (hD i hi))
  have hs1 := hs.frame (fun i hi => c1.fr i (hE i hi))
  by_cases d0 : 16 < gs.length
  · have d1 : (16 : Int) < (gs.length : Int) := by omega
    have d2 : manyB gs = true := by unfold manyB; rw [decide_eq_true d1]; rfl
    simp (disch := omega) [-hset_if, -Bool.decide_and, hset_ne, hs1.sl.lenK, d0, d1]
    refine hr.fin ?_ (by omega) c1.fr
    unfold checkG
    simp only [d2, if_true, if_false, Bool.false_eq_true]
  have d1 : ¬ (16 : Int) < (gs.length : Int) := by omega
  have d2 : manyB gs = gs.any fun g => decide ((16 : Int) < g.ps.length) := by unfold manyB; rw [decide_eq_false d1]; rfl
  simp (disch := omega) [-hset_if, -Bool.decide_and, hset_ne, hs1.sl.lenK, d0, d1, bg1]
  refine some_ok (p := fun g => decide ((16 : Int) < g.ps.length)) hs1 (fun i hi => by have := hE i hi; omega) (fun r hr1 n' H' K' a1 a2 a3 => c59_ok ((hs1.ps r hr1).frame (fun i hi => a2 i (by have := hE i hi; omega))) (fun i hi => by have := hE i hi; omega) a3) e59 ?_
  rw [← d2]
  intro n2 H2 a1 a2
  have c2 := c1.al a1 a2
  clear a1 a2
  have le2 := c2.le
  have bp2 := c2.bp
  have bg2 := c2.bg
  have bf2 := c2.bf
  have hp2 := hp.frame (fun i hi => c2.fr i (hD i hi))
  have hs2 := hs.frame (fun i hi => c2.fr i (hE i hi))
  clear d2
  cases f1 : manyB gs with
  | true =>
    simp (disch := omega) [-hset_if, -Bool.decide_and, hset_ne, f1]
    refine hr.fin ?_ (by omega) c2.fr
    unfold checkG
    simp only [f1, if_true, if_false, Bool.false_eq_true]
  | false =>
  simp (disch := omega) [-hset_if, -Bool.decide_and, hset_ne, f1, bg2]
  refine some_ok (p := fun g => !(nameB g.nm)) hs2 (fun i hi => by have := hE i hi; omega) (fun r hr1 n' H' K' a1 a2 a3 => c60_ok (hs2.ps r hr1).one a3) e60 ?_
  obtain ⟨bn, hbn⟩ : ∃ bn, (gs.any fun g => !(nameB g.nm)) = bn := ⟨_, rfl⟩
  have d2 : badN gs = (bn || gs.any fun g => g.ps.any fun s => !(nameB s)) := by rw [← hbn]; rfl
  rw [hbn]
  intro n3 H3 a1 a2
  have c3 := c2.al a1 a2
  clear a1 a2
  have le3 := c3.le
  have bp3 := c3.bp
  have bg3 := c3.bg
  have bf3 := c3.bf
  have hp3 := hp.frame (fun i hi => c3.fr i (hD i hi))
  have hs3 := hs.frame (fun i hi => c3.fr i (hE i hi))
  cases bn with
  | true =>
    have f2 : badN gs = true := by rw [d2]; rfl
    simp (disch := omega) [-hset_if, -Bool.decide_and, hset_ne]
    refine hr.fin ?_ (by omega) c3.fr
    unfold checkG
    simp only [f1, f2, if_true, if_false, Bool.false_eq_true]
  | false =>
  rw [Bool.false_or] at d2
  simp (disch := omega) [-hset_if, -Bool.decide_and, hset_ne, e55]
  refine members_ok (V := n + 1) (ok := fun _ => True) (p := fun s => !(nameB s)) bg3 (by omega) hs3 (fun i hi => by have := hE i hi; omega) (fun s _ n' H' K' a1 a2 a3 => c61_ok (fun n'' H'' b1 b2 => a3 n'' H'' b1 b2)) (fun _ _ _ _ => trivial) e61 rfl ?_
  rw [← d2]
  intro n4 H4 a1 a2
  have c4 := c3.al a1 a2
  clear a1 a2
  have le4 := c4.le
  have bp4 := c4.bp
  have bg4 := c4.bg
  have bf4 := c4.bf
  have hp4 := hp.frame (fun i hi => c4.fr i (hD i hi))
  have hs4 := hs.frame (fun i hi => c4.fr i (hE i hi))
  clear d2
  cases f2 : badN gs with
  | true =>
    simp (disch := omega) [-hset_if, -Bool.decide_and, hset_ne, f2]
    refine hr.fin ?_ (by omega) c4.fr
    unfold checkG
    simp only [f1, f2, if_true, if_false, Bool.false_eq_true]
  | false =>
  simp (disch := omega) [-hset_if, -Bool.decide_and, hset_ne, f2, bg4]
  refine some_ok (p := fun g => !(deadB g.dd)) hs4 (fun i hi => by have := hE i hi; omega) (fun r hr1 n' H' K' a1 a2 a3 => c62_ok (hs4.ps r hr1).one a3) e62 ?_
  rw [show (gs.any fun g => !(deadB g.dd)) = badD gs from rfl]
  intro n5 H5 a1 a2
  have c5 := c4.al a1 a2
  clear a1 a2
  have le5 := c5.le
  have bp5 := c5.bp
  have bg5 := c5.bg
  have bf5 := c5.bf
  have hp5 := hp.frame (fun i hi => c5.fr i (hD i hi))
  have hs5 := hs.frame (fun i hi => c5.fr i (hE i hi))
  cases f3 : badD gs with
  | true =>
    simp (disch := omega) [-hset_if, -Bool.decide_and, hset_ne, f3]
    refine hr.fin ?_ (by omega) c5.fr
    unfold checkG
    simp only [f1, f2, f3, if_true, if_false, Bool.false_eq_true]
  | false =>
  simp (disch := omega) [-hset_if, -Bool.decide_and, hset_ne, f3, bg5]
  refine some_ok (p := fun g => decide ((g.ps.length : Int) < 2)) hs5 (fun i hi => by have := hE i hi; omega) (fun r hr1 n' H' K' a1 a2 a3 => c63_ok ((hs5.ps r hr1).frame (fun i hi => a2 i (by have := hE i hi; omega))) (fun i hi => by have := hE i hi; omega) a3) e63 ?_
  rw [show (gs.any fun g => decide ((g.ps.length : Int) < 2)) = fewB gs from rfl]
  intro n6 H6 a1 a2
  have c6 := c5.al a1 a2
  clear a1 a2
  have le6 := c6.le
  have bp6 := c6.bp
  have bg6 := c6.bg
  have bf6 := c6.bf
  have hp6 := hp.frame (fun i hi => c6.fr i (hD i hi))
  have hs6 := hs.frame (fun i hi => c6.fr i (hE i hi))
  cases f4 : fewB gs with
  | true =>
    simp (disch := omega) [-hset_if, -Bool.decide_and, hset_ne, f4]
    refine hr.fin ?_ (by omega) c6.fr
    unfold checkG
    simp only [f1, f2, f3, f4, if_true, if_false, Bool.false_eq_true]
  | false =>
  simp (disch := omega) [-hset_if, -Bool.decide_and, hset_ne, f4, bg6]
  refine twice_ok hs6 (fun i hi => by have := hE i hi; omega) hl hpl ?_
  intro n7 H7 a1 a2
  have c7 := c6.al a1 a2
  clear a1 a2
  have le7 := c7.le
  have bp7 := c7.bp
  have bg7 := c7.bg
  have bf7 := c7.bf
  have hp7 := hp.frame (fun i hi => c7.fr i (hD i hi))
  have hs7 := hs.frame (fun i hi => c7.fr i (hE i hi))
  cases f5 : twiceP gs with
  | true =>
    simp (disch := omega) [-hset_if, -Bool.decide_and, hset_ne, f5]
    refine hr.fin ?_ (by omega) c7.fr
    unfold checkG
    simp only [f1, f2, f3, f4, f5, if_true, if_false, Bool.false_eq_true]
  | false =>
  simp (disch := omega) [-hset_if, -Bool.decide_and, hset_ne, f5, e55]
  refine members_ok (V := n + 1) (ok := fun _ => True) (p := fun s => decide (findPt pts s < 0)) bg7 (by omega) hs7 (fun i hi => by have := hE i hi; omega) (fun s _ n' H' K' a1 a2 a3 => c65_ok (V := n) (P := n + 2) (by rw [a2 n (by omega)]; exact bp7) (by omega) (by rw [a2 _ (by omega)]; exact bf7) (by omega) (hp7.frame (fun i hi => a2 i (by have := hD i hi; omega))) (fun i hi => by have := hD i hi; omega) (fun n'' H'' b1 b2 => a3 n'' H'' b1 b2)) (fun _ _ _ _ => trivial) e65 rfl ?_
  rw [show (gs.any fun r => r.ps.any fun s => decide (findPt pts s < 0)) = unkB pts gs from rfl]
  intro n8 H8 a1 a2
  have c8 := c7.al a1 a2
  clear a1 a2
  have le8 := c8.le
  have bp8 := c8.bp
  have bg8 := c8.bg
  have bf8 := c8.bf
  have hp8 := hp.frame (fun i hi => c8.fr i (hD i hi))
  have hs8 := hs.frame (fun i hi => c8.fr i (hE i hi))
  cases f6 : unkB pts gs with
  | true =>
    simp (disch := omega) [-hset_if, -Bool.decide_and, hset_ne, f6]
    refine hr.fin ?_ (by omega) c8.fr
    unfold checkG
    simp only [f1, f2, f3, f4, f5, f6, if_true, if_false, Bool.false_eq_true]
  | false =>
  have hkn : ∀ r ∈ gs, ∀ s ∈ r.ps, 0 ≤ findPt pts s := fun r hr1 s hs1 => by
    unfold unkB at f6
    rw [List.any_eq_false] at f6
    have h := f6 r hr1
    simp only [Bool.not_eq_true, List.any_eq_false, decide_eq_true_eq] at h
    have := h s hs1
    omega
  simp (disch := omega) [-hset_if, -Bool.decide_and, hset_ne, f6, e55]
  refine members_ok (V := n + 1) (ok := fun s => 0 ≤ findPt pts s) (p := typeBad pts) bg8 (by omega) hs8 (fun i hi => by have := hE i hi; omega) (fun s h0 n' H' K' a1 a2 a3 => c66_ok (V := n) (P := n + 2) (by rw [a2 n (by omega)]; exact bp8) (by omega) (by rw [a2 _ (by omega)]; exact bf8) (by omega) (hp8.frame (fun i hi => a2 i (by have := hD i hi; omega))) (fun i hi => by have := hD i hi; omega) h0 (fun n'' H'' b1 b2 => a3 n'' H'' b1 b2)) hkn e66 rfl ?_
  rw [show (gs.any fun r => r.ps.any (typeBad pts)) = typB pts gs from rfl]
  intro n9 H9 a1 a2
  have c9 := c8.al a1 a2
  clear a1 a2
  have le9 := c9.le
  have bp9 := c9.bp
  have bg9 := c9.bg
  have bf9 := c9.bf
  have hp9 := hp.frame (fun i hi => c9.fr i (hD i hi))
  have hs9 := hs.frame (fun i hi => c9.fr i (hE i hi))
  cases f7 : typB pts gs with
  | true =>
    simp (disch := omega) [-hset_if, -Bool.decide_and, hset_ne, f7]
    refine hr.fin ?_ (by omega) c9.fr
    unfold checkG
    simp only [f1, f2, f3, f4, f5, f6, f7, if_true, if_false, Bool.false_eq_true]
  | false =>
    simp (disch := omega) [-hset_if, -Bool.decide_and, hset_ne, f7]
    refine hr.fin ?_ (by omega) c9.fr
    unfold checkG
    simp only [f1, f2, f3, f4, f5, f6, f7, if_true, if_false, Bool.false_eq_true]
end Go.Aw.S15
