/-
  Chapter 50: the law that every request ends, its walk.
-/
import Derived.Test.YtfeclhjbkphjdaaS50v
namespace Go.Aw.S50
open Go.RowKit Go.Proofs Go.Aw.Tab
set_option linter.unusedSimpArgs false
set_option linter.unusedVariables false
set_option maxRecDepth 10000
set_option maxHeartbeats 2000000
set_option pp.deepTerms false
set_option pp.deepTerms.threshold 4
set_option pp.maxSteps 1500
variable {w0 : World} {n : Nat} {H : Heap} {K : Value → Nat → Heap → Prop} {pv : Value} {D0 : Nat → Prop} {l : List Opn}
attribute [local simp] Ans.cells Ask.cells Opn.cells Wt.cells Qt.cells intC NS.cells
theorem sendP_pr (c : Cl) (d : ByteArray) : (sendP c d).2.pat = c.pat ∧ (sendP c d).2.ret = c.ret := by
  unfold sendP
  split
  · exact ⟨rfl, rfl⟩
  split <;> exact ⟨rfl, rfl⟩
theorem serveP_c (p : NP) (a : Ask) : (serveP p a).c = p.c := by
  unfold serveP
  split
  · rfl
  split <;> rfl
theorem stepP_pr (p : NP) (kind which : Int) (data : ByteArray) : (stepP p kind which data).c.pat = p.c.pat ∧ (stepP p kind which data).c.ret = p.c.ret := by
  unfold stepP
  split
  · unfold sendN
    split <;> exact sendP_pr _ _
  split
  · exact ⟨rfl, rfl⟩
  split
  · unfold askN
    split
    · exact ⟨rfl, rfl⟩
    dsimp only
    split
    · rw [serveP_c]; split <;> exact ⟨rfl, rfl⟩
    · split <;> exact ⟨rfl, rfl⟩
  split
  · unfold ansN
    split
    · exact ⟨rfl, rfl⟩
    dsimp only
    split
    · split
      · have := (hand_mem (c := p.c) (a := at_ p.answers (ixW which p.answers.length : Int))).2.2.2.2; exact this
      · have := (hand_mem (c := p.c) (a := at_ p.answers (ixW which p.answers.length : Int))).2.2.2.2; exact this
    · split <;> exact ⟨rfl, rfl⟩
  split <;> exact ⟨rfl, rfl⟩
theorem Pot.step3 {p : NP} {B : Int} (h : Pot p.c B) (hw : WtOk p.c) (which : Int) (d : ByteArray) : Pot (stepP p 3 which d).c B := by
  have e : stepP p 3 which d = ansN p 3 which := by
    unfold stepP
    rw [if_neg (by omega), if_neg (by omega), if_neg (by omega), if_pos (by omega)]
  rw [e]
  unfold ansN
  split
  · exact h
  dsimp only
  split
  · split
    · exact Pot.hand (c := p.c) h hw _
    · exact h.hand hw _
  · split <;> exact h
theorem Fit.wt {p : NP} {k : Nat} (h : Fit p k) : WtOk p.c := h.c.wt
/-- What holds in the first loop, and in the second one. -/
structure EI1 (H : Heap) (w0 : World) (n n1 N : Nat) (P R : Int) (j : Nat) : Prop where
  ex : ∃ p, NetX H w0 n n1 N p ∧ Fit p j ∧ Cnt p ∧ p.c.pat = P ∧ p.c.ret = R
structure EI2 (H : Heap) (w0 : World) (n n1 N : Nat) (P R : Int) (m j : Nat) : Prop where
  ex : ∃ p, NetX H w0 n n1 N p ∧ Fit p (m + 2 * j) ∧ Cnt p ∧ p.c.pat = P ∧ p.c.ret = R ∧ Pot p.c (P * (R + 2) - j)
theorem Ends_ok {a b : Int} (hs : SlR ⟨Try.prog, w0⟩ H D0 11 Opn.cells pv l) (hD : ∀ i, D0 i → i < n) (hcl : ∀ o ∈ l, -9223372036854775808 ≤ o.client ∧ o.client ≤ 9223372036854775807) (hr : Res n H K (.bool true)) : ACall ⟨Try.prog, w0⟩ 8 [.int .i64 a, .int .i64 b, pv] K n H := by
  refine ACall.run Try.func8 rfl Try.ntmps8 Try.results8 (by simp) fun J0 => ?_
  simp (disch := omega) [-hset_if, -Bool.decide_and, hset_ne]
  refine awake_ok ?_
  have hP0 : IntKind.i64.wrap ((IntKind.u64.wrap a).tmod 5) = a % 18446744073709551616 % 5 := by
    rw [u64w, Int.tmod_eq_emod_of_nonneg (by omega), i64w (by omega) (by omega)]
  have hR0 : IntKind.i64.wrap ((IntKind.u64.wrap b).tmod 4) = b % 18446744073709551616 % 4 := by
    rw [u64w, Int.tmod_eq_emod_of_nonneg (by omega), i64w (by omega) (by omega)]
  obtain ⟨P, hP, hP1⟩ : ∃ P : Int, 1 + a % 18446744073709551616 % 5 = P ∧ 1 ≤ P ∧ P ≤ 5 := ⟨_, rfl, by omega⟩
  obtain ⟨R, hR, hR1⟩ : ∃ R : Int, b % 18446744073709551616 % 4 = R ∧ 0 ≤ R ∧ R ≤ 3 := ⟨_, rfl, by omega⟩
  simp (disch := omega) [-hset_if, -Bool.decide_and, hset_ne, hP0, hR0, hP, hR]
  have hnc : ncOk P R := by unfold ncOk; omega
  refine start_ok hnc ?_
  intro n1 H1 N a1 a2 hX
  simp (disch := omega) [-hset_if, -Bool.decide_and, hset_ne]
  refine small_ok (hs.frame (fun i hi => a2 i (hD i hi))) ?_
  simp (disch := omega) [-hset_if, -Bool.decide_and, hset_ne]
  refine cif_var (fun h0 => ?_) (fun h0 => ?_)
  rotate_left
  · simp (disch := omega) [-hset_if, -Bool.decide_and, hset_ne]
    exact hr.fin rfl a1 a2
  have hl80 : l.length ≤ 80 := by unfold smallB at h0; simp at h0; omega
  simp (disch := omega) [-hset_if, -Bool.decide_and, hset_ne]
  refine AW.while (σ := Nat) (fun j => l.length - j) (fun j => [(2, pv), (7, .int .i64 P), (8, .int .i64 R), (9, .pointer (some ⟨new N, 0, none⟩)), (10, .int .i64 (j : Int))])
    (fun j n3 H3 => j ≤ l.length ∧ (∀ i, i < n → H3 i = H i) ∧ EI1 H3 w0 n n3 N P R j) 0 ?_ ?_ ?_
  · simp (disch := omega) [-hset_if, -Bool.decide_and, hset_ne]
  · exact ⟨by omega, a2, ⟨_, hX, Fit.start hnc, rfl, rfl, rfl⟩⟩
  rintro j n3 H3 ⟨g1, g2, ⟨p, g3, g4, g5, g6, g7⟩⟩
  have hs3 : SlR ⟨Try.prog, w0⟩ H3 D0 11 Opn.cells pv l := hs.frame (fun i hi => g2 i (hD i hi))
  have hle3 : n ≤ n3 := by obtain ⟨_, _, g, _⟩ := g3; exact g.le
  simp (disch := omega) [-hset_if, -Bool.decide_and, hset_ne, hs3.lenK]
  refine cif_dec (fun c1 => ?_) (fun c1 => ?_)
  · have hcj := hcl _ (at_mem (l := l) (j := j) (by omega))
    refine AW.draw (X := ⟨_, 103, _, _⟩) (id := 13) mixed (.take 0 <| .take 1 <| .take 2 <| .take 3 <| .take 4 <| .take 5 <| .take 6 <| .take 7 <| .take 8 <| .take 9 <| .take 10 <| .take 11 <| .take 12 <| .take 13 <| .take 14 <| .take 15 <| .each 16 [] (.take 17 <| .done) <| .stop) (by kernel_rfl) ?_
    simp (disch := omega) [-hset_if, -Bool.decide_and, hset_ne, hs3.ix elemS22, hs3.load0 shp3, hs3.load shp3, hs3.load shp9]
    refine step_ok g3 g4 (by omega) hcj ?_
    intro n4 H4 e1 e2 e3
    simp (disch := omega) [-hset_if, -Bool.decide_and, hset_ne]
    obtain ⟨q1, q2⟩ := stepP_pr p (at_ l (j : Int)).kind (at_ l (j : Int)).client (at_ l (j : Int)).data
    exact Next.mk (j + 1) (by first | omega | (dsimp only; omega)) (by simp (disch := omega) [-hset_if, -Bool.decide_and, hset_ne]) ⟨by omega, fun i hi => by rw [e2 i hi, g2 i hi], ⟨_, e3, g4.step _ _ _, g5.step _ _ _, by rw [q1, g6], by rw [q2, g7]⟩⟩
  have hjl : j = l.length := by omega
  subst hjl
  have hT0 : 0 ≤ P * (R + 1) ∧ P * (R + 1) ≤ 20 := by
    rcases (by omega : P = 1 ∨ P = 2 ∨ P = 3 ∨ P = 4 ∨ P = 5) with rfl | rfl | rfl | rfl | rfl <;> omega
  obtain ⟨T, hT, hT1⟩ : ∃ T : Nat, 2 * P * (R + 1) = (T : Int) ∧ T ≤ 40 := ⟨(2 * P * (R + 1)).toNat, by rw [Int.mul_assoc]; omega, by rw [Int.mul_assoc]; omega⟩
  have hB : P * (R + 2) ≤ T := by
    rw [← hT]
    rcases (by omega : P = 1 ∨ P = 2 ∨ P = 3 ∨ P = 4 ∨ P = 5) with rfl | rfl | rfl | rfl | rfl <;> omega
  simp (disch := omega) [-hset_if, -Bool.decide_and, hset_ne]
  refine AW.while (σ := Nat) (fun j => T - j) (fun j => [(7, .int .i64 P), (8, .int .i64 R), (9, .pointer (some ⟨new N, 0, none⟩)), (11, .int .i64 (j : Int))])
    (fun j n3 H3 => j ≤ T ∧ (∀ i, i < n → H3 i = H i) ∧ EI2 H3 w0 n n3 N P R l.length j) 0 ?_ ?_ ?_
  · simp (disch := omega) [-hset_if, -Bool.decide_and, hset_ne]
  · refine ⟨by omega, g2, ⟨_, g3, by simpa using g4, g5, g6, g7, ?_⟩⟩
    have := Pot.first g4.wt (by rw [g6]; omega)
    rw [g6, g7] at this
    simpa using this
  clear g1 g2 g3 g4 g5 g6 g7 hs3 hle3
  rintro j n3 H3 ⟨g1, g2, ⟨p, g3, g4, g5, g6, g7, g8⟩⟩
  simp (disch := omega) [-hset_if, -Bool.decide_and, hset_ne, hT]
  refine cif_dec (fun c2 => ?_) (fun c2 => ?_)
  · obtain ⟨col, s, g, hp⟩ := g3
    have hself := g.self
    simp (disch := omega) [-hset_if, -Bool.decide_and, hset_ne, hself]
    refine nTick_ok (C := s.C) ⟨col, s, g, hp⟩ g4 (by omega) ⟨_, hself⟩ ?_
    intro n4 H4 x L e1 e2 e3 e4 e5
    have hN4 := hself
    rw [← e5] at hN4
    simp (disch := omega) [-hset_if, -Bool.decide_and, hset_ne]
    refine step_ok e3 g4.tickD (by omega) (by omega) ?_
    intro n5 H5 q1 q2 q3
    simp (disch := omega) [-hset_if, -Bool.decide_and, hset_ne]
    refine Next.mk (j + 1) (by first | omega | (dsimp only; omega)) (by simp (disch := omega) [-hset_if, -Bool.decide_and, hset_ne]) ⟨by omega, fun i hi => by rw [q2 i hi, e2 i hi, g2 i hi], ⟨_, q3, ?_, ?_, ?_, ?_, ?_⟩⟩
    · have := g4.tickD.step 3 (2 * (j : Int)) ⟨#[]⟩
      exact (show l.length + 2 * (j + 1) = l.length + 2 * j + 1 + 1 by omega) ▸ this
    · refine Cnt.step (p := tickD p) ?_ _ _ _
      have := tk_len p.c p.c.opn
      unfold Cnt at *
      simp only [tickD, tickP, List.length_append]; omega
    · rw [(stepP_pr _ _ _ _).1]; exact g6
    · rw [(stepP_pr _ _ _ _).2]; exact g7
    · have h1 : Pot (tickD p).c (P * (R + 2) - (j : Int) - 1) := Pot.tick (by rw [show P * (R + 2) - (j : Int) - 1 + 1 = P * (R + 2) - (j : Int) by omega]; exact g8)
      have hwt : WtOk (tickD p).c := g4.tickD.wt
      have e : P * (R + 2) - ((j + 1 : Nat) : Int) = P * (R + 2) - (j : Int) - 1 := by omega
      rw [e]
      exact Pot.step3 h1 hwt _ _
  have hjT : j = T := by omega
  subst hjT
  have hnone : p.c.opn = [] := g8.none g4.wt (by omega)
  simp (disch := omega) [-hset_if, -Bool.decide_and, hset_ne]
  obtain ⟨col, s, g, rfl⟩ := g3
  have hself := g.self
  have hdl : s.c.done.length = s.data.length := by
    unfold Cnt at g5
    rw [hnone] at g5
    simpa [NS.p] using g5
  have hno : s.c.opn = [] := hnone
  have hdl2 : s.c.done.length ≤ 200 := by have := g4.c.len; rw [hnone] at this; simp [NS.p] at this; omega
  refine AW.draw (X := ⟨_, 103, _, _⟩) (id := 20) mixed (.take 0 <| .take 1 <| .take 2 <| .take 3 <| .each 4 [] (.take 5 <| .take 6 <| .take 7 <| .take 8 <| .take 9 <| .take 10 <| .take 11 <| .each 12 [] (.take 13 <| .take 14 <| .take 15 <| .take 16 <| .take 17 <| .take 18 <| .take 19 <| .take 20 <| .take 23 <| .take 24 <| .take 25 <| .take 26 <| .each 21 [23, 24, 25, 26] (.take 22 <| .each 27 [23, 24, 25, 26, 22] (.take 28 <| .take 29 <| .take 30 <| .done) <| .stop) <| .stop) <| .stop) <| .stop) (by kernel_rfl) ?_
  simp (disch := omega) [-hset_if, -Bool.decide_and, hset_ne, hself]
  refine Pending_ok g.cli (by rw [hno]; simp) ?_
  intro n4 H4 x4 G4 b1 b2 b3 b4
  have g4' := g.al b1 (fun i hi _ => b2 i hi)
  have hself4 := g4'.self
  rw [hno] at b3
  simp (disch := omega) [-hset_if, -Bool.decide_and, hset_ne, b3.sl.lenK, invs, hself4]
  refine nTick_ok (C := s.C) ⟨_, s, g4', rfl⟩ g4 (by omega) ⟨_, hself4⟩ ?_
  intro n5 H5 x5 L5 q1 q2 q3 q4 q5
  obtain ⟨G5, q6, q7⟩ := q4
  have hL5 : L5 = [] := by rw [q7]; simp [tickP, tkA, hnone]
  obtain ⟨col5, s5, g5', hp5⟩ := q3
  have hself5 := g5'.self
  subst hL5
  have hs5c : s5.c = (tickP s.c).2 ∧ s5.data = s.data := by
    have h1 := congrArg NP.c hp5
    have h2 := congrArg NP.data hp5
    exact ⟨h1, h2⟩
  have hd5 : s5.c.done = s.c.done := by rw [hs5c.1]; simp [tickP, tkD, hno]
  simp (disch := omega) [-hset_if, -Bool.decide_and, hset_ne, q6.sl.lenK, hself5]
  refine Done_ok g5'.cli (by rw [hd5]; omega) ?_
  intro n6 H6 x6 G6 r1 r2 r3 r4
  have g6' := g5'.al r1 (fun i hi _ => r2 i hi)
  have hself6 := g6'.self
  have hm6 := g6'.mp.len
  rw [hs5c.2, List.length_map] at hm6
  have hl6 := r3.sl.lenK
  rw [hd5] at hl6
  simp (disch := omega) [-hset_if, -Bool.decide_and, hset_ne, hl6, hself6, hm6, hdl]
  exact hr.fin (by simp) (by have := g.le; omega) (fun i hi => by rw [r2 i (by have := g5'.le; omega), q2 i hi, b2 i (by have := g.le; omega), g2 i hi])
end Go.Aw.S50
