/-
  Chapter 34: who governs.
-/
import Derived.Test.YtlcngkigfcacmaaS34c
namespace Go.Aw.S34
open Go.RowKit Go.Proofs Go.Aw.Tab
set_option linter.unusedSimpArgs false
set_option linter.unusedVariables false
set_option maxRecDepth 10000
set_option maxHeartbeats 1000000
set_option pp.deepTerms false
set_option pp.deepTerms.threshold 4
set_option pp.maxSteps 1500
attribute [local simp] Hold.cells
variable {w0 : World} {n : Nat} {H : Heap} {K : Value → Nat → Heap → Prop} {s : ByteArray} {pv : Value} {D : Nat → Prop} {l : List Hold} {t : Int}
/-- The best one so far, with the hold j. -/
def better (l : List Hold) (t : Int) (j : Nat) (b : Int) : Int := if (at_ l (j : Int)).fr ≤ t ∧ t < (at_ l (j : Int)).to ∧ (b < 0 ∨ (at_ l b).seq < (at_ l (j : Int)).seq) then j else b
def govF (l : List Hold) (t : Int) : Nat → Nat → Int → Int
  | 0, _, b => b
  | k + 1, j, b => govF l t k (j + 1) (better l t j b)
/-- The index of the hold that governs, or -1. -/
def gov (l : List Hold) (t : Int) : Int := govF l t l.length 0 (-1)
theorem govF_step {j : Nat} {b : Int} (h : j < l.length) : govF l t (l.length - j) j b = govF l t (l.length - (j + 1)) (j + 1) (better l t j b) := by
  obtain ⟨k, hk⟩ : ∃ k, l.length - j = k + 1 := ⟨l.length - j - 1, by omega⟩
  rw [hk, govF, show l.length - (j + 1) = k by omega]
theorem govF_end {j : Nat} {b : Int} (h : ¬ j < l.length) : govF l t (l.length - j) j b = b := by
  rw [show l.length - j = 0 by omega, govF]
theorem governs_r (hs : SlR ⟨Try.prog, w0⟩ H D 6 Hold.cells pv l) (hD : ∀ i, D i → i < n) (hb : l.length < 4611686018427387904) (hr : Res n H K (.int .i64 (gov l t))) : ACall ⟨Try.prog, w0⟩ 28 [pv, .int .i64 t] K n H := by
  unfold gov at hr
  refine ACall.run Try.func28 rfl Try.ntmps28 Try.results28 (by simp) fun J0 => ?_
  simp (disch := omega) [-hset_if, -Bool.decide_and, hset_ne, hs.lenK]
  refine AW.while (σ := Nat × Int) (fun s => l.length - s.1) (fun s => [(0, pv), (1, .int .i64 t), (8, pv), (9, .int .i64 l.length), (5, .int .i64 s.2), (10, .int .i64 s.1)])
    (fun s n1 H1 => s.1 ≤ l.length ∧ n ≤ n1 ∧ (∀ i, i < n → H1 i = H i) ∧ -1 ≤ s.2 ∧ s.2 < l.length ∧ Res n H K (.int .i64 (govF l t (l.length - s.1) s.1 s.2))) (0, -1) ?_ ?_ ?_
  · simp (disch := omega) [-hset_if, -Bool.decide_and, hset_ne]
  · exact ⟨by simp, by omega, fun _ _ => rfl, by simp, by dsimp only; omega, hr⟩
  clear hr
  rintro ⟨j, b⟩ n1 H1 ⟨g1, g2, g3, g4, g5, hr⟩
  dsimp only at g1 g4 g5 hr ⊢
  have hs1 : SlR ⟨Try.prog, w0⟩ H1 D 6 Hold.cells pv l := hs.frame (fun i hi => g3 i (hD i hi))
  have hD1 : ∀ i, D i → i < n1 := fun i hi => by have := hD i hi; omega
  simp (disch := omega) [-hset_if, -Bool.decide_and, hset_ne]
  refine cif_dec (fun h => ?_) (fun h => ?_)
  · rw [govF_step h] at hr
    have hs2 := fun o => (hs1.frame (H' := hset n1 o H1) (fun i hi => by have := hD1 i hi; simp (disch := omega) [-hset_if, -Bool.decide_and, hset_ne]))
    have ha := fun o => (hs2 o).load shp3
    have hc := fun o => (hs2 o).load0 shp3
    simp (disch := omega) [-hset_if, -Bool.decide_and, hset_ne, hs1.ix elemS22, hs1.load shp43, hs1.load0 shp43, ha, hc, h]
    refine AW.draw (X := ⟨_, 42, _, _⟩) (id := 5) mixed (.take 0 <| .take 1 <| .take 2 <| .take 3 <| .take 4 <| .take 5 <| .take 6 <| .take 7 <| .take 8 <| .take 9 <| .take 10 <| .take 11 <| .take 12 <| .take 13 <| .take 14 <| .take 15 <| .take 16 <| .take 17 <| .take 18 <| .take 19 <| .take 20 <| .take 21 <| .take 22 <| .take 23 <| .done) (by kernel_rfl) ?_
    simp (disch := omega) [-hset_if, -Bool.decide_and, hset_ne, hs1.ix elemS22, hs1.load shp43, hs1.load0 shp43, ha, hc, h]
    repeat' (first | (with_reducible intro _; first | (exfalso; omega) | (simp (disch := omega) [-hset_if, -Bool.decide_and, hset_ne, hs1.ix elemS22, hs1.load shp43, hs1.load0 shp43, ha, hc, h]) | skip) | (with_reducible refine And.intro ?_ ?_; omega) | with_reducible apply cif_dec | with_reducible apply cif_beq | with_reducible apply cif_bne | with_reducible apply cif_var | with_reducible apply gif_dec | with_reducible apply gif_ndec | with_reducible apply gif_beq | with_reducible apply gif_bne | with_reducible apply gif_nbeq | with_reducible apply gif_var)
    all_goals first
      | (rw [better, if_pos (by omega)] at hr
         exact Next.mk (j + 1, (j : Int)) (by first | omega | (dsimp only; omega)) (by simp (disch := omega) [-hset_if, -Bool.decide_and, hset_ne]) ⟨(by first | omega | (dsimp only; omega)), (by first | omega | (dsimp only; omega)), fun i hi => by rw [hset_ne (by omega)]; exact g3 i hi, (by first | omega | (dsimp only; omega)), (by first | omega | (dsimp only; omega)), hr⟩)
      | (rw [better, if_neg (by omega)] at hr
         exact Next.mk (j + 1, b) (by first | omega | (dsimp only; omega)) (by simp (disch := omega) [-hset_if, -Bool.decide_and, hset_ne]) ⟨(by first | omega | (dsimp only; omega)), (by first | omega | (dsimp only; omega)), fun i hi => by rw [hset_ne (by omega)]; exact g3 i hi, (by first | omega | (dsimp only; omega)), (by first | omega | (dsimp only; omega)), hr⟩)
  · rw [govF_end h] at hr
    simp (disch := omega) [-hset_if, -Bool.decide_and, hset_ne]
    exact hr.fin rfl (by omega) g3
theorem governs_ok (hs : SlR ⟨Try.prog, w0⟩ H D 6 Hold.cells pv l) (hD : ∀ i, D i → i < n) (hb : l.length < 4611686018427387904) (hk : K (.int .i64 (gov l t)) n H) : ACall ⟨Try.prog, w0⟩ 28 [pv, .int .i64 t] K n H :=
  ACall.res (fun _ h => governs_r hs hD hb h) (by simp) hk
/-- At, by a Check. -/
def atC (c : Int) (l : List Hold) (t : Int) : Int := if c = 0 then gov l t else -1
theorem at_ok (hs : SlR ⟨Try.prog, w0⟩ H D 6 Hold.cells pv l) (hD : ∀ i, D i → i < n) (hb : l.length < 4611686018427387904) (hk : K (.int .i64 (atC (chk l) l t)) n H) : ACall ⟨Try.prog, w0⟩ 16 [pv, .int .i64 t] K n H := by
  unfold atC at hk
  refine ACall.go Try.func16 rfl Try.ntmps16 Try.results16 (by simp) fun hU hu J0 => ?_
  simp (disch := omega) [-hset_if, -Bool.decide_and, hset_ne]
  refine check_ok hs hD hb ?_
  simp (disch := omega) [-hset_if, -Bool.decide_and, hset_ne]
  refine cif_bne (fun h => ?_) (fun h => ?_)
  · rw [if_pos h] at hk
    simp (disch := omega) [-hset_if, -Bool.decide_and, hset_ne]
    refine governs_ok hs hD hb ?_
    simp (disch := omega) [-hset_if, -Bool.decide_and, hset_ne]
    exact Fin.ret hU hk (by simp) rfl (by omega) (fun i hi => by simp (disch := omega) only [hset_ne])
  · rw [if_neg h] at hk
    simp (disch := omega) [-hset_if, -Bool.decide_and, hset_ne]
    exact Fin.ret hU hk (by simp) rfl (by omega) (fun i hi => by simp (disch := omega) only [hset_ne])
theorem atR_ok (hs : SlR ⟨Try.prog, w0⟩ H D 6 Hold.cells pv l) (hD : ∀ i, D i → i < n) (hb : l.length < 4611686018427387904) (hn : ∀ x ∈ l, x.nm.size ≤ 4611686018427387903) (hk : K (.int .i64 (atC (chkR l) l t)) n H) : ACall ⟨Try.prog, w0⟩ 18 [pv, .int .i64 t] K n H := by
  unfold atC at hk
  refine ACall.go Try.func18 rfl Try.ntmps18 Try.results18 (by simp) fun hU hu J0 => ?_
  simp (disch := omega) [-hset_if, -Bool.decide_and, hset_ne]
  refine checkR_ok hs hD hb hn ?_
  simp (disch := omega) [-hset_if, -Bool.decide_and, hset_ne]
  refine cif_bne (fun h => ?_) (fun h => ?_)
  rotate_left
  · rw [if_neg h] at hk
    simp (disch := omega) [-hset_if, -Bool.decide_and, hset_ne]
    exact Fin.ret hU hk (by simp) rfl (by omega) (fun i hi => by simp (disch := omega) only [hset_ne])
  rw [if_pos h, gov] at hk
  simp (disch := omega) [-hset_if, -Bool.decide_and, hset_ne]
  refine AW.while (σ := Nat × Int) (fun s => l.length - s.1) (fun s => [(0, pv), (1, .int .i64 t), (5, .int .i64 s.2), (6, .int .i64 s.1)])
    (fun s n1 H1 => n1 = n ∧ H1 = H ∧ s.1 ≤ l.length ∧ -1 ≤ s.2 ∧ s.2 < l.length ∧ K (.int .i64 (govF l t (l.length - s.1) s.1 s.2)) n H) (0, -1) ?_ ?_ ?_
  · simp (disch := omega) [-hset_if, -Bool.decide_and, hset_ne]
  · exact ⟨rfl, rfl, by simp, by simp, by dsimp only; omega, hk⟩
  clear hk
  rintro ⟨j, b⟩ n1 H1 ⟨rfl, rfl, g1, g4, g5, hk⟩
  dsimp only at g1 g4 g5 hk ⊢
  simp (disch := omega) [-hset_if, -Bool.decide_and, hset_ne, hs.lenK]
  refine cif_dec (fun h => ?_) (fun h => ?_)
  · rw [govF_step h] at hk
    simp (disch := omega) [-hset_if, -Bool.decide_and, hset_ne]
    refine AW.draw (X := ⟨_, 52, _, _⟩) (id := 7) mixed (.take 0 <| .take 1 <| .take 2 <| .take 3 <| .take 4 <| .take 5 <| .take 6 <| .take 7 <| .take 8 <| .take 9 <| .take 10 <| .take 11 <| .take 12 <| .take 13 <| .take 14 <| .take 15 <| .take 16 <| .take 17 <| .take 18 <| .take 19 <| .take 20 <| .take 21 <| .take 22 <| .take 23 <| .take 24 <| .take 25 <| .take 26 <| .take 27 <| .take 28 <| .take 29 <| .take 30 <| .take 31 <| .take 32 <| .done) (by kernel_rfl) ?_
    simp (disch := omega) [-hset_if, -Bool.decide_and, hset_ne, hs.ix elemS22, hs.load shp3, hs.load0 shp3, h]
    repeat' (first | (with_reducible intro _; first | (exfalso; omega) | (simp (disch := omega) [-hset_if, -Bool.decide_and, hset_ne, hs.ix elemS22, hs.load shp3, hs.load0 shp3, h]) | skip) | (with_reducible refine And.intro ?_ ?_; omega) | with_reducible apply cif_dec | with_reducible apply cif_beq | with_reducible apply cif_bne | with_reducible apply cif_var | with_reducible apply gif_dec | with_reducible apply gif_ndec | with_reducible apply gif_beq | with_reducible apply gif_bne | with_reducible apply gif_nbeq | with_reducible apply gif_var)
    all_goals first
      | (rw [better, if_pos (by omega)] at hk
         exact Next.mk (j + 1, (j : Int)) (by first | omega | (dsimp only; omega)) (by simp (disch := omega) [-hset_if, -Bool.decide_and, hset_ne]) ⟨rfl, rfl, (by first | omega | (dsimp only; omega)), (by first | omega | (dsimp only; omega)), (by first | omega | (dsimp only; omega)), hk⟩)
      | (rw [better, if_neg (by omega)] at hk
         exact Next.mk (j + 1, b) (by first | omega | (dsimp only; omega)) (by simp (disch := omega) [-hset_if, -Bool.decide_and, hset_ne]) ⟨rfl, rfl, (by first | omega | (dsimp only; omega)), (by first | omega | (dsimp only; omega)), (by first | omega | (dsimp only; omega)), hk⟩)
  · rw [govF_end h] at hk
    simp (disch := omega) [-hset_if, -Bool.decide_and, hset_ne]
    exact Fin.ret hU hk (by simp) rfl (by omega) (fun i hi => by simp (disch := omega) only [hset_ne])
end Go.Aw.S34
