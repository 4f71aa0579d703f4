/-
  Chapter 56: the examples.
-/
import Derived.Test.YtmppccnafhckoaaS56m
namespace Go.Aw.S56
open Go.RowKit Go.Proofs Go.Aw.Tab
set_option linter.unusedSimpArgs false
set_option linter.unusedVariables false
set_option maxRecDepth 10000
set_option maxHeartbeats 1000000
set_option pp.deepTerms false
set_option pp.deepTerms.threshold 4
set_option pp.maxSteps 1500
attribute [local simp] Load.cells Sta.cells intC Num.cells range_get
variable {w0 : World} {n : Nat} {H : Heap} {K : Value → Nat → Heap → Prop}
def wl : List Load := [⟨⟨#[108, 105, 103, 104, 116, 115]⟩, 1, 10000, 0, 0⟩, ⟨⟨#[102, 97, 110, 115]⟩, 5, 20000, 0, 0⟩, ⟨⟨#[112, 117, 109, 112, 115]⟩, 5, 30000, 0, 0⟩]
def ws : List Sta := [⟨false, 0⟩, ⟨true, 0⟩, ⟨true, 0⟩]
theorem wl_chk : chk wl = 0 := by kernel_rfl
theorem wl_ord : ordR wl = [2, 1, 0] := by kernel_rfl
theorem wl_sh1 : shV wl 50000 100000 = (1, 80000, 0) := by kernel_rfl
theorem wl_sh2 : shV wl 50000 45000 = (0, 0, 9) := by kernel_rfl
theorem wl_fc : fcV 30000000 60000 600 900 = (53333, 0) := by decide
theorem wl_chS : chS wl ws 10 [50000, 85000] = 0 := by kernel_rfl
theorem wl_stp : stp wl ws 50000 85000 10 = [⟨false, 0⟩, ⟨false, 10⟩, ⟨true, 0⟩] := by kernel_rfl
theorem wl_prv : prv wl 50000 70000 2 = true := by kernel_rfl
theorem awake_r (hr : Res n H K (.bool true)) : ACall ⟨Try.prog, w0⟩ 10 [] K n H := by
  refine ACall.run Try.func10 rfl Try.ntmps10 Try.results10 (by simp) fun J0 => ?_
  simp (disch := omega) [-hset_if, -Bool.decide_and, hset_ne]
  have h0 : SlR ⟨Try.prog, w0⟩ (hset n (.cells (wl.flatMap Load.cells) 42 5) H) (· = n) 5 Load.cells (.slice (some ⟨new n, 0, none⟩) 3 3) wl := (OwR.lit (n := n + 1) (T := 42) (cs := wl.flatMap Load.cells) (by omega) (by simp) (by omega) (hset_same _ _ _) rfl rfl).sl
  have hG : hset n (.cells (wl.flatMap Load.cells) 42 5) H = hset n (.cells [.string ⟨#[108, 105, 103, 104, 116, 115]⟩, .int .i64 1, .int .i64 10000, .int .i64 0, .int .i64 0, .string ⟨#[102, 97, 110, 115]⟩, .int .i64 5, .int .i64 20000, .int .i64 0, .int .i64 0, .string ⟨#[112, 117, 109, 112, 115]⟩, .int .i64 5, .int .i64 30000, .int .i64 0, .int .i64 0] 42 5) H := rfl
  have hfr : ∀ i, i < n → hset n (.cells (wl.flatMap Load.cells) 42 5) H i = H i := (fun i hi => by simp (disch := omega) only [hset_ne])
  rw [← hG]
  generalize hset n (.cells (wl.flatMap Load.cells) 42 5) H = G at h0 hfr ⊢
  clear hG
  generalize Value.slice (some ⟨new n, 0, none⟩) 3 3 = lv at h0 ⊢
  have hlen : wl.length < 4611686018427387904 := by decide
  refine Order_ok hlen h0 (fun i hi => by omega) (fun e => absurd wl_chk e) ?_
  intro _ v n1 H1 E p1 p2 p3 p4
  rw [wl_ord] at p4
  have h1 : SlR ⟨Try.prog, w0⟩ H1 (· = n) 5 Load.cells lv wl := h0.frame (fun i hi => p2 i (by omega))
  have hD : ∀ i, i = n → i < n1 := fun i hi => by omega
  simp (disch := omega) [-hset_if, -Bool.decide_and, hset_ne]
  refine Shed_ok hlen h1 hD ?_
  rw [wl_sh1]
  simp (disch := omega) [-hset_if, -Bool.decide_and, hset_ne]
  refine Shed_ok hlen h1 hD ?_
  rw [wl_sh2]
  simp (disch := omega) [-hset_if, -Bool.decide_and, hset_ne]
  refine Forecast_ok ?_
  rw [wl_fc]
  simp (disch := omega) [-hset_if, -Bool.decide_and, hset_ne]
  have hst : SlR ⟨Try.prog, w0⟩ (hset n1 (.cells (ws.flatMap Sta.cells) 54 2) H1) (· = n1) 2 Sta.cells (.slice (some ⟨new n1, 0, none⟩) 3 3) ws := (OwR.lit (n := n1 + 1) (T := 54) (cs := ws.flatMap Sta.cells) (by omega) (by simp) (by omega) (hset_same _ _ _) rfl rfl).sl
  have hG : hset n1 (.cells (ws.flatMap Sta.cells) 54 2) H1 = hset n1 (.cells [.bool false, .int .i64 0, .bool true, .int .i64 0, .bool true, .int .i64 0] 54 2) H1 := rfl
  have hf2 : ∀ i, i < n1 → hset n1 (.cells (ws.flatMap Sta.cells) 54 2) H1 i = H1 i := (fun i hi => by simp (disch := omega) only [hset_ne])
  rw [← hG]
  generalize hset n1 (.cells (ws.flatMap Sta.cells) 54 2) H1 = G2 at hst hf2 ⊢
  clear hG
  generalize Value.slice (some ⟨new n1, 0, none⟩) 3 3 = tv at hst ⊢
  refine Step_ok hlen (by decide) (h1.frame (fun i hi => hf2 i (hD i hi))) (fun i hi => by have := hD i hi; omega) hst (fun i hi => by omega) (fun _ _ _ _ e => absurd wl_chS e) ?_
  intro _ v2 n2 H2 E2 a1 a2 a3 a4
  rw [wl_stp] at a4
  have hf3 : ∀ i, i < n1 → H2 i = H1 i := fun i hi => by rw [a2 i (by omega), hf2 i hi]
  have p5 : OwR ⟨Try.prog, w0⟩ H2 n2 E 3 1 intC v [2, 1, 0] := p4.frame (by omega) (fun i hi => hf3 i (p4.lt i hi))
  have h3 : SlR ⟨Try.prog, w0⟩ H2 (· = n) 5 Load.cells lv wl := h1.frame (fun i hi => hf3 i (by omega))
  simp (disch := omega) [-hset_if, -Bool.decide_and, hset_ne]
  have hl5 : SlR ⟨Try.prog, w0⟩ (hset n2 (.cells [.int .i64 2, .int .i64 1, .int .i64 0] 3 1) H2) (· = n2) 1 intC (.slice (some ⟨new n2, 0, none⟩) 3 3) [2, 1, 0] := (OwR.lit (n := n2 + 1) (j := n2) (T := 3) (sz := 1) (f := intC) (xs := [2, 1, 0]) (cs := [.int .i64 2, .int .i64 1, .int .i64 0]) (by omega) (by simp) (by omega) (hset_same _ _ _) rfl rfl).sl
  have hf4 : ∀ o i, i < n2 → hset n2 o H2 i = H2 i := fun o i hi => by rw [hset_ne (by omega)]
  refine sameInts_ok (p5.sl.frame (fun i hi => hf4 _ i (by have := p4.lt i hi; omega))) hl5 (by decide) ?_
  have a6 : OwR ⟨Try.prog, w0⟩ (hset n2 (.cells [.int .i64 2, .int .i64 1, .int .i64 0] 3 1) H2) n2 E2 54 2 Sta.cells v2 [⟨false, 0⟩, ⟨false, 10⟩, ⟨true, 0⟩] := a4.frame (by omega) (fun i hi => hf4 _ i (a4.lt i hi))
  have h4 : SlR ⟨Try.prog, w0⟩ (hset n2 (.cells [.int .i64 2, .int .i64 1, .int .i64 0] 3 1) H2) (· = n) 5 Load.cells lv wl := h3.frame (fun i hi => hf4 _ i (by omega))
  have hl3 : ([⟨false, 0⟩, ⟨false, 10⟩, ⟨true, 0⟩] : List Sta).length = 3 := rfl
  have hat1 : at_ ([⟨false, 0⟩, ⟨false, 10⟩, ⟨true, 0⟩] : List Sta) 1 = ⟨false, 10⟩ := rfl
  have hat2 : at_ ([⟨false, 0⟩, ⟨false, 10⟩, ⟨true, 0⟩] : List Sta) 2 = ⟨true, 0⟩ := rfl
  generalize ([⟨false, 0⟩, ⟨false, 10⟩, ⟨true, 0⟩] : List Sta) = ps at a4 a6 hl3 hat1 hat2
  have hlk := a4.sl.lenK
  rw [hl3] at hlk
  have hix1 := fun P t b he k => a6.sl.ix (P := P) (t := t) (e := 54) (b := b) he (z := 1) (k := k) (by omega) (by omega)
  have hix2 := fun P t b he k => a6.sl.ix (P := P) (t := t) (e := 54) (b := b) he (z := 2) (k := k) (by omega) (by omega)
  have hld1 := a6.sl.load0 shp54 (z := 1) (by omega) (by omega)
  have hld2 := a6.sl.load shp4 (off := 0) (z := 2) (by omega) (by omega)
  rw [hat1] at hld1
  rw [hat2] at hld2
  simp (disch := omega) [-hset_if, -Bool.decide_and, hset_ne, hlk, hix1 _ _ _ elemS46, hix2 _ _ _ elemS46, hld1, hld2]
  refine proves_ok hlen h4 (fun i hi => by omega) ?_
  rw [wl_prv]
  simp (disch := omega) [-hset_if, -Bool.decide_and, hset_ne]
  exact hr.fin rfl (by omega) (fun i hi => by rw [hf4 _ i (by omega), hf3 i (by omega), p2 i (by omega)]; exact hfr i hi)
theorem awake_ok (hk : K (.bool true) n H) : ACall ⟨Try.prog, w0⟩ 10 [] K n H := ACall.res (fun _ h => awake_r h) (by simp) hk
end Go.Aw.S56
