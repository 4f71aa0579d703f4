/-
  Chapter 15: InterlockBreaks.
-/
import Derived.Test.YtmgadjflgiokeaaS15q
namespace Go.Aw.S15
open Go.RowKit Go.Proofs Go.Aw.Tab
set_option linter.unusedSimpArgs false
set_option linter.unusedVariables false
set_option maxRecDepth 10000
set_option maxHeartbeats 1000000
set_option pp.deepTerms false
set_option pp.deepTerms.threshold 4
set_option pp.maxSteps 1500
attribute [local simp] Sta.cells
variable {w0 : World} {n : Nat} {H : Heap} {K : Value → Nat → Heap → Prop}
variable {pv ov : Value} {nm : ByteArray} {ps : List ByteArray} {dead : Int}
def stOf (x : Int) : Sta := ⟨x, 0⟩
theorem take_next {α : Type} [Inhabited α] {L : List α} {j : Nat} (h : j < L.length) : L.take (j + 1) = L.take j ++ [at_ L (j : Int)] := by
  rw [List.take_succ_eq_append_getElem h, at_nat h]
theorem at_map {α β : Type} [Inhabited α] [Inhabited β] {l : List α} {f : α → β} {j : Nat} (h : j < l.length) : at_ (l.map f) (j : Int) = f (at_ l (j : Int)) := by
  rw [at_nat h, at_nat (by simpa using h)]; simp
structure LB where
  j : Nat
  a : Value
  A : Nat → Prop
  b : Value
  B : Nat → Prop
theorem breaksLaw_ok {ons : List Int} (hp : ∀ G, SlR ⟨Try.prog, w0⟩ G (fun _ => False) 1 strC pv ps) (hs : ∀ G, SlR ⟨Try.prog, w0⟩ G (fun _ => False) 1 intC ov ons)
    (hk : ∀ n' H', K (.bool true) n' H') : ACall ⟨Try.prog, w0⟩ 7 [.agg #[.string nm, pv, .int .i64 dead], ov] K n H := by
  obtain ⟨L, hL⟩ : ∃ L, L = ons.map stOf := ⟨_, rfl⟩
  have hLl : L.length = ons.length := by rw [hL]; simp
  have hpc := (hp H).cells
  have hsc := (hs H).cells
  refine ACall.code Try.func7 rfl Try.ntmps7 Try.results7 (by simp) fun J0 => ?_
  refine AW.ev ?_
  simp (disch := omega) [-hset_if, -Bool.decide_and, hset_ne, hpc, hsc]
  refine awake_ok ?_
  intro n1 H1 a1 a2
  simp (disch := omega) [-hset_if, -Bool.decide_and, hset_ne, hpc, hsc, a2, (hs H).lenK, (hp H).lenK]
  refine gif_dec (fun c1 => ?_) (fun c1 => ?_)
  · simp (disch := omega) [-hset_if, -Bool.decide_and, hset_ne]
    refine Fin_id (hk _ _)
  simp (disch := omega) [-hset_if, -Bool.decide_and, hset_ne, hpc, hsc, a2, (hs H).lenK, (hp H).lenK]
  refine cif_dec (fun c2 => ?_) (fun c2 => ?_)
  · simp (disch := omega) [-hset_if, -Bool.decide_and, hset_ne]
    refine Fin_id (hk _ _)
  simp (disch := omega) [-hset_if, -Bool.decide_and, hset_ne]
  have h0 := a2 n (by omega)
  rw [hset_same] at h0
  refine AW.while (σ := LB) (fun s => ons.length - s.j) (fun s => [(1, ov), (2, .pointer (some ⟨new n, 0, none⟩)), (5, s.a), (6, s.b), (7, .int .i64 s.j)])
    (fun s n2 H2 => s.j ≤ ons.length ∧ n1 ≤ n2 ∧ H2 n = .cells [.string nm, pv, .int .i64 dead] 24 1 ∧ OwR ⟨Try.prog, w0⟩ H2 n2 s.A 29 2 Sta.cells s.a (L.take s.j) ∧ OwR ⟨Try.prog, w0⟩ H2 n2 s.B 30 2 Sta.cells s.b (L.take s.j) ∧
      (∀ i, s.A i → n < i ∧ ¬ s.B i) ∧ (∀ i, s.B i → n < i)) ⟨0, .slice (some ⟨new n1, 0, none⟩) 0 0, (· = n1), .slice (some ⟨new (n1 + 1), 0, none⟩) 0 0, (· = n1 + 1)⟩ ?_ ?_ ?_
  · simp (disch := omega) [-hset_if, -Bool.decide_and, hset_ne]
  · exact ⟨by simp, by omega, by simp (disch := omega) [-hset_if, -Bool.decide_and, hset_ne, h0], OwR.empty (by omega) (by omega) (by simp (disch := omega) [-hset_if, -Bool.decide_and, hset_ne]), OwR.empty (by omega) (by omega) (by simp (disch := omega) [-hset_if, -Bool.decide_and, hset_ne]), fun i hi => by omega, fun i hi => by omega⟩
  rintro ⟨j, va, A, vb, B⟩ n2 H2 ⟨g1, g2, g3, g4, g5, g6, g7⟩
  dsimp only at g1 g2 g3 g4 g5 g6 g7 ⊢
  simp (disch := omega) [-hset_if, -Bool.decide_and, hset_ne, (hs H2).lenK]
  refine cif_dec (fun h => ?_) (fun h => ?_)
  · have hlen : (L.take j).length = j := by simp; omega
    have e := take_next (L := L) (j := j) (by omega)
    have ea : at_ L (j : Int) = stOf (at_ ons (j : Int)) := by rw [hL]; exact at_map h
    simp (disch := omega) [-hset_if, -Bool.decide_and, hset_ne, (hs H2).ix elemS60, (hs H2).load0 shp3, intC]
    refine g4.push elemS61 zero29 rfl (stOf (at_ ons (j : Int))) rfl rfl rfl (by omega) (by omega) ?_
    intro va2 n3 H3 A2 p1 p2 p3 p4 p5
    have q5 : OwR ⟨Try.prog, w0⟩ H3 n3 B 30 2 Sta.cells vb (L.take j) := g5.frame (by omega) (fun i hi => p3 i (g5.lt i hi) (fun hA => (g6 i hA).2 hi))
    have q3 : H3 n = .cells [.string nm, pv, .int .i64 dead] 24 1 := by rw [p3 n (by omega) (fun hA => by have := (g6 n hA).1; omega)]; exact g3
    simp (disch := omega) [-hset_if, -Bool.decide_and, hset_ne, (hs H3).ix elemS60, (hs H3).load0 shp3, intC]
    refine q5.push elemS67 zero30 rfl (stOf (at_ ons (j : Int))) rfl rfl rfl (by omega) (by omega) ?_
    intro vb2 n4 H4 B2 r1 r2 r3 r4 r5
    simp (disch := omega) [-hset_if, -Bool.decide_and, hset_ne]
    rw [← ea, ← e] at p5 r5
    refine Next.mk ⟨j + 1, va2, A2, vb2, B2⟩ (by simp only; omega) (by simp (disch := omega) [-hset_if, -Bool.decide_and, hset_ne]) ⟨by simp only; omega, by omega, ?_, p5.frame (by omega) (fun i hi => r3 i (by have := p5.lt i hi; omega) (fun hB => ?_)), r5, ?_, ?_⟩
    · rw [r3 n (by omega) (fun hB => by have := g7 n hB; omega)]; exact q3
    · have := g5.lt i hB
      rcases p4 i hi with h | h
      · exact (g6 i h).2 hB
      · omega
    · intro i hi
      have h1 := p5.lt i hi
      refine ⟨?_, fun hB => ?_⟩
      · rcases p4 i hi with h | h
        · exact (g6 i h).1
        · omega
      · rcases r4 i hB with h' | h'
        · have := g5.lt i h'
          rcases p4 i hi with h | h
          · exact (g6 i h).2 h'
          · omega
        · omega
    · intro i hi
      rcases r4 i hi with h' | h'
      · exact g7 i h'
      · omega
  · rw [List.take_of_length_le (by omega)] at g4 g5
    simp (disch := omega) [-hset_if, -Bool.decide_and, hset_ne]
    refine AW.draw (X := ⟨_, 50, _, _⟩) (id := 11) mixed (.take 0 <| .take 1 <| .take 3 <| .take 4 <| .each 2 [3, 4] (.each 5 [] (.take 6 <| .take 7 <| .done) <| .stop) <| .stop) (by kernel_rfl) ?_
    simp (disch := omega) [-hset_if, -Bool.decide_and, hset_ne, g3]
    refine breaks_ok (hp _) g4.sl g4.lt (by omega) ?_
    intro n3 H3 b1 b2
    simp (disch := omega) [-hset_if, -Bool.decide_and, hset_ne, g3, b2]
    refine breaksR_ok (hp _) (g5.sl.frame (fun i hi => b2 i (g5.lt i hi))) (fun i hi => by have := g5.lt i hi; omega) (by omega) ?_
    intro n4 H4 d1 d2
    simp (disch := omega) [-hset_if, -Bool.decide_and, hset_ne]
    refine Fin_id (hk _ _)
end Go.Aw.S15
