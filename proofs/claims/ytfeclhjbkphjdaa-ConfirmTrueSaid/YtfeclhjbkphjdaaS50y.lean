/-
  Chapter 50: the law of calm, its walk.
-/
import Derived.Test.YtfeclhjbkphjdaaS50x
namespace Go.Aw.S50
open Go.RowKit Go.Proofs Go.Aw.Tab
set_option linter.unusedSimpArgs false
set_option linter.unusedVariables false
set_option maxRecDepth 10000
set_option maxHeartbeats 2000000
set_option pp.deepTerms false
set_option pp.deepTerms.threshold 4
set_option pp.maxSteps 1500
variable {w0 : World} {n : Nat} {H : Heap} {K : Value → Nat → Heap → Prop} {pv : Value} {D0 : Nat → Prop} {xs : List ByteArray}
attribute [local simp] Ans.cells Ask.cells Opn.cells Wt.cells Qt.cells intC NS.cells strC
structure KI (H : Heap) (w0 : World) (n n1 N : Nat) (xs : List ByteArray) (j : Nat) : Prop where
  ex : ∃ p, NetX H w0 n n1 N p ∧ Fit p (6 * j) ∧ Calm xs p j
  sz : ∀ i : Nat, i < j → (at_ xs (i : Int)).size ≤ 200
structure KJ (H : Heap) (w0 : World) (n n1 N : Nat) (xs : List ByteArray) (j r : Nat) : Prop where
  ex : ∃ p, NetX H w0 n n1 N p ∧ Fit p (6 * j + 5 - 2 * r) ∧ Ph xs j r p ∧ r ≤ 2
theorem Ph.size {p : NP} {j r : Nat} (h : Ph xs j r p) (hr : r ≤ 2) : (0 < r → p.asks.length = 1) ∧ (r = 0 → p.asks.length = 0 ∧ p.answers.length = 0) := by
  match r, h with
  | 0, h => exact ⟨fun e => by omega, fun _ => by have h1 := Calm.asks h; have h2 := Calm.answers h; rw [h1, h2]; exact ⟨rfl, rfl⟩⟩
  | 1, h => exact ⟨fun _ => by have h1 := Way.asks h; rw [h1]; rfl, fun e => by omega⟩
  | 2, h => exact ⟨fun _ => by have h1 := Way.asks h; rw [h1]; rfl, fun e => by omega⟩
  | r + 3, _ => omega
theorem Ph.round {p : NP} {j r : Nat} (h : Ph xs j r p) (h0 : 0 < r) (hr : r ≤ 2) (hs : (at_ xs (j : Int)).size ≤ 200) (hj : j ≤ 100) : Ph xs j (r - 1) (stepP (stepP p 2 0 ⟨#[]⟩) 3 0 ⟨#[]⟩) := by
  match r, h with
  | 0, h => omega
  | 1, h => exact Way.round1 h hs hj
  | 2, h => exact Way.round0 h hs hj
  | r + 3, _ => omega
theorem CalmL_ok (hs : SlR ⟨Try.prog, w0⟩ H D0 1 strC pv xs) (hD : ∀ i, D0 i → i < n) (hr : Res n H K (.bool true)) : ACall ⟨Try.prog, w0⟩ 7 [pv] K n H := by
  refine ACall.run Try.func7 rfl Try.ntmps7 Try.results7 (by simp) fun J0 => ?_
  simp (disch := omega) [-hset_if, -Bool.decide_and, hset_ne]
  refine awake_ok ?_
  have hnc : ncOk 4 2 := by decide
  simp (disch := omega) [-hset_if, -Bool.decide_and, hset_ne]
  refine start_ok hnc ?_
  intro n1 H1 N a1 a2 hX
  have hs1 : SlR ⟨Try.prog, w0⟩ H1 D0 1 strC pv xs := hs.frame (fun i hi => a2 i (hD i hi))
  simp (disch := omega) [-hset_if, -Bool.decide_and, hset_ne, hs1.lenK]
  refine cif_dec (fun h0 => ?_) (fun h0 => ?_)
  · simp (disch := omega) [-hset_if, -Bool.decide_and, hset_ne]
    exact hr.fin rfl a1 a2
  simp (disch := omega) [-hset_if, -Bool.decide_and, hset_ne]
  refine AW.while (σ := Nat) (fun j => xs.length - j) (fun j => [(0, pv), (3, .pointer (some ⟨new N, 0, none⟩)), (4, .int .i64 (j : Int)), (5, .int .i64 (j : Int))])
    (fun j n3 H3 => j ≤ xs.length ∧ (∀ i, i < n → H3 i = H i) ∧ KI H3 w0 n n3 N xs j) 0 ?_ ?_ ?_
  · simp (disch := omega) [-hset_if, -Bool.decide_and, hset_ne]
  · exact ⟨by omega, a2, ⟨⟨_, hX, Fit.start hnc, ⟨rfl, rfl, ⟨by simp [startP], by simp [startP]⟩, rfl, rfl⟩⟩, fun i hi => by omega⟩⟩
  rintro j n3 H3 ⟨g1, g2, ⟨⟨p, g3, g4, g5⟩, gsz⟩⟩
  have hs3 : SlR ⟨Try.prog, w0⟩ H3 D0 1 strC pv xs := hs.frame (fun i hi => g2 i (hD i hi))
  have hle3 : n ≤ n3 := by obtain ⟨_, _, g, _⟩ := g3; exact g.le
  simp (disch := omega) [-hset_if, -Bool.decide_and, hset_ne, hs3.lenK]
  refine cif_dec (fun c1 => ?_) (fun c1 => ?_)
  · simp (disch := omega) [-hset_if, -Bool.decide_and, hset_ne, hs3.ix elemS80, hs3.load0 shp9]
    refine cif_dec (fun c2 => ?_) (fun c2 => ?_)
    · simp (disch := omega) [-hset_if, -Bool.decide_and, hset_ne]
      exact hr.fin rfl hle3 g2
    have hsz : (at_ xs (j : Int)).size ≤ 200 := by omega
    simp (disch := omega) [-hset_if, -Bool.decide_and, hset_ne, hs3.ix elemS80, hs3.load0 shp9]
    refine step_ok g3 g4 (by omega) (by omega) ?_
    intro n4 H4 e1 e2 e3
    have hw := g5.send hsz
    have f4 := g4.step 0 0 (at_ xs (j : Int))
    generalize stepP p 0 0 (at_ xs (j : Int)) = p4 at *
    simp (disch := omega) [-hset_if, -Bool.decide_and, hset_ne]
    refine AW.while (σ := Nat) (fun r => r) (fun r => [(0, pv), (3, .pointer (some ⟨new N, 0, none⟩)), (4, .int .i64 ((j : Int) + 1)), (5, .int .i64 (j : Int))])
      (fun r n5 H5 => (∀ i, i < n → H5 i = H i) ∧ KJ H5 w0 n n5 N xs j r) (if j = 0 then 2 else 1) ?_ ?_ ?_
    · simp (disch := omega) [-hset_if, -Bool.decide_and, hset_ne]
    · refine ⟨fun i hi => by rw [e2 i hi, g2 i hi], ⟨p4, e3, ?_, ?_, ?_⟩⟩
      · split
        · exact f4
        · exact f4.mono (by omega)
      · by_cases h : j = 0
        · rw [if_pos h] at hw ⊢; exact hw
        · rw [if_neg h] at hw ⊢; exact hw
      · split <;> omega
    rintro r n5 H5 ⟨k1, ⟨q, k2, k3, k4, k5⟩⟩
    obtain ⟨col, s, g, hq⟩ := k2
    have hself := g.self
    obtain ⟨z1, z2⟩ := k4.size k5
    have ha : q.asks = s.asks := by rw [← hq]; rfl
    have hb : q.answers = s.answers := by rw [← hq]; rfl
    rw [ha] at z1
    rw [ha, hb] at z2
    by_cases hr0 : r = 0
    · obtain ⟨z3, z4⟩ := z2 hr0
      subst hr0
      simp (disch := omega) [-hset_if, -Bool.decide_and, hset_ne, hself, g.ak.sl.lenK, g.an.sl.lenK, z3, z4]
      refine step_ok ⟨col, s, g, hq⟩ k3 (by omega) (by omega) ?_
      intro n6 H6 m1 m2 m3
      simp (disch := omega) [-hset_if, -Bool.decide_and, hset_ne]
      refine Next.mk (j + 1) (by first | omega | (dsimp only; omega)) (by simp (disch := omega) [-hset_if, -Bool.decide_and, hset_ne]) ⟨by omega, fun i hi => by rw [m2 i hi, k1 i hi], ⟨⟨_, m3, ?_, Calm.tick k4⟩, fun i hi => by by_cases e : i = j; subst e; exact hsz; exact gsz i (by omega)⟩⟩
      exact (show 6 * j + 5 - 2 * 0 + 1 = 6 * (j + 1) by omega) ▸ k3.step 1 0 ⟨#[]⟩
    · have z3 := z1 (by omega)
      simp (disch := omega) [-hset_if, -Bool.decide_and, hset_ne, hself, g.ak.sl.lenK, g.an.sl.lenK, z3]
      refine step_ok ⟨col, s, g, hq⟩ k3 (by omega) (by omega) ?_
      intro n6 H6 m1 m2 m3
      simp (disch := omega) [-hset_if, -Bool.decide_and, hset_ne]
      refine step_ok m3 (k3.step _ _ _) (by omega) (by omega) ?_
      intro n7 H7 v1 v2 v3
      simp (disch := omega) [-hset_if, -Bool.decide_and, hset_ne]
      refine Next.mk (r - 1) (by first | omega | (dsimp only; omega)) (by simp (disch := omega) [-hset_if, -Bool.decide_and, hset_ne]) ⟨fun i hi => by rw [v2 i hi, m2 i hi, k1 i hi], ⟨_, v3, ?_, k4.round (by omega) k5 hsz (by omega), by omega⟩⟩
      exact (show 6 * j + 5 - 2 * r + 1 + 1 = 6 * j + 5 - 2 * (r - 1) by omega) ▸ (k3.step 2 0 ⟨#[]⟩).step 3 0 ⟨#[]⟩
  have hj : j = xs.length := by omega
  subst hj
  obtain ⟨col, s, g, hp⟩ := g3
  have hself := g.self
  have hcc : s.c = p.c := by rw [← hp]; rfl
  have hsv : s.sv = p.sv := by rw [← hp]; rfl
  have hcd : s.c.done = outsJ xs xs.length := by rw [hcc, g5.c]
  have hco : s.c.opn = [] := by rw [hcc, g5.c]
  have hdl : s.c.done.length = xs.length := by rw [hcd, outsJ_len]
  have hdn : s.sv.done = xs.length := by rw [hsv, g5.sv]
  simp (disch := omega) [-hset_if, -Bool.decide_and, hset_ne, hself]
  refine Done_ok g.cli (by omega) ?_
  intro n4 H4 x4 G4 b1 b2 b3 b4
  have g4' := g.al b1 (fun i hi _ => b2 i hi)
  have hself4 := g4'.self
  have f4 : ∀ i, i < n → H4 i = H i := fun i hi => by rw [b2 i (by omega), g2 i hi]
  have hs4 : SlR ⟨Try.prog, w0⟩ H4 D0 1 strC pv xs := hs.frame (fun i hi => f4 i (hD i hi))
  simp (disch := omega) [-hset_if, -Bool.decide_and, hset_ne]
  refine AW.while (σ := Nat) (fun j => xs.length - j) (fun j => [(0, pv), (3, .pointer (some ⟨new N, 0, none⟩)), (4, .int .i64 (xs.length : Int)), (6, x4), (7, .int .i64 (j : Int))])
    (fun j n5 H5 => n4 = n5 ∧ H4 = H5 ∧ j ≤ xs.length) 0 ?_ ?_ ?_
  · simp (disch := omega) [-hset_if, -Bool.decide_and, hset_ne]
  · exact ⟨rfl, rfl, by omega⟩
  rintro j _ _ ⟨rfl, rfl, g1⟩
  have hl4 := b3.sl.lenK
  rw [hdl] at hl4
  simp (disch := omega) [-hset_if, -Bool.decide_and, hset_ne, hl4]
  refine cif_dec (fun c3 => ?_) (fun c3 => ?_)
  · have hat : at_ s.c.done (j : Int) = ⟨1, (j : Int) + 1, 0, at_ xs (j : Int) ++ at_ xs (j : Int)⟩ := by rw [hcd]; exact outsJ_at xs (by omega)
    have hszj := gsz j (by omega)
    refine AW.draw (X := ⟨_, 122, _, _⟩) (id := 24) mixed (.take 0 <| .take 1 <| .take 2 <| .take 3 <| .take 4 <| .take 5 <| .take 6 <| .take 7 <| .take 8 <| .take 9 <| .take 10 <| .take 11 <| .take 12 <| .take 13 <| .take 14 <| .take 15 <| .take 16 <| .take 17 <| .take 18 <| .take 19 <| .take 20 <| .take 21 <| .take 22 <| .take 23 <| .take 24 <| .take 25 <| .take 26 <| .take 27 <| .take 28 <| .take 29 <| .take 30 <| .take 31 <| .take 32 <| .done) (by kernel_rfl) ?_
    simp (disch := omega) [-hset_if, -Bool.decide_and, hset_ne, b3.sl.ix elemS67, hdl, b3.sl.load shp3, b3.sl.load shp26, b3.sl.load shp9, hat, hs4.ix elemS80, hs4.load0 shp9]
    exact ⟨by omega, Next.mk (j + 1) (by first | omega | (dsimp only; omega)) (by simp (disch := omega) [-hset_if, -Bool.decide_and, hset_ne]) ⟨rfl, rfl, by omega⟩⟩
  simp (disch := omega) [-hset_if, -Bool.decide_and, hset_ne, hl4, hself4]
  refine Pending_ok g4'.cli (by rw [hco]; simp) ?_
  intro n6 H6 x6 G6 q1 q2 q3 q4
  rw [hco] at q3
  have g6 := g4'.al q1 (fun i hi _ => q2 i hi)
  have hself6 := g6.self
  simp (disch := omega) [-hset_if, -Bool.decide_and, hset_ne, q3.sl.lenK, invs, hself6]
  refine Executed_ok g6.srv ?_
  simp (disch := omega) [-hset_if, -Bool.decide_and, hset_ne, hdn]
  exact hr.fin rfl (by omega) (fun i hi => by rw [q2 i (by omega), f4 i hi])
end Go.Aw.S50
