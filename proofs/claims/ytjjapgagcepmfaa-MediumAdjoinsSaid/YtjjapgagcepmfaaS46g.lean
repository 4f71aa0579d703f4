/-
  Chapter 46: the reference's Between, Counts; lists compared; small; run.
-/
import Derived.Test.YtjjapgagcepmfaaS46f
namespace Go.Aw.S46
open Go.RowKit Go.Proofs Go.Aw.Tab
attribute [local simp] Frame.cells Heard.cells
set_option linter.unusedSimpArgs false
set_option maxRecDepth 10000
set_option maxHeartbeats 1000000
set_option pp.deepTerms false
set_option pp.deepTerms.threshold 4
set_option pp.maxSteps 1500
variable {w0 : World} {n : Nat} {H : Heap} {K : Value → Nat → Heap → Prop} {k : Nat} {v : Value} {D : Nat → Prop} {hs : List Heard}
theorem refBetween_ok (hs' : SlR ⟨Try.prog, w0⟩ H D 5 Heard.cells v hs) (hD : ∀ i, D i → i < n) (kind a b : Int) (hb : hs.length ≤ 1000000)
    (hk : ∀ u n' H' E, n ≤ n' → (∀ i, i < n → H' i = H i) → (∀ i, E i → n ≤ i) → OwR ⟨Try.prog, w0⟩ H' n' E 25 4 Frame.cells u (btw hs kind a b hs.length) → K u n' H') :
    ACall ⟨Try.prog, w0⟩ 26 [v, .int .i64 kind, .int .i64 a, .int .i64 b] K n H := by
  refine ACall.run Try.func26 rfl Try.ntmps26 Try.results26 (by simp) fun J0 => ?_
  simp (disch := omega) [-hset_if, -Bool.decide_and, hset_ne]
  refine AW.while (σ := BS) (fun s => hs.length - s.i) (fun s => [(0, v), (1, .int .i64 kind), (2, .int .i64 a), (3, .int .i64 b), (9, s.v), (10, .int .i64 s.i)])
    (fun s n1 H1 => s.i ≤ hs.length ∧ n ≤ n1 ∧ (∀ i, i < n → H1 i = H i) ∧ (∀ i, s.D i → n ≤ i) ∧ OwR ⟨Try.prog, w0⟩ H1 n1 s.D 25 4 Frame.cells s.v (btw hs kind a b s.i)) ⟨0, .slice (some ⟨new n, 0, none⟩) 0 0, (· = n)⟩ ?_ ?_ ?_
  · simp (disch := omega) [-hset_if, -Bool.decide_and, hset_ne]
  · exact ⟨by simp, by omega, (fun i hi => by simp (disch := omega) only [hset_ne]), fun _ h => by omega, OwR.empty (by omega) (by omega) (by simp)⟩
  rintro ⟨j, u, E⟩ n1 H1 ⟨g1, g2, g3, g4, g5⟩
  dsimp only at g1 g2 g3 g4 g5
  have hs1 : SlR ⟨Try.prog, w0⟩ H1 D 5 Heard.cells v hs := hs'.frame (fun i hi => g3 i (hD i hi))
  have hbl := btw_len hs kind a b j
  simp (disch := omega) [-hset_if, -Bool.decide_and, hset_ne, hs1.lenK]
  refine cif_dec (fun h => ?_) (fun h => ?_)
  · have no : ¬ (a ≤ (j : Int) ∧ (j : Int) ≤ b ∧ (at_ hs (j : Int)).what = 1 ∧ (at_ hs (j : Int)).frame.kind = kind) → OwR ⟨Try.prog, w0⟩ H1 n1 E 25 4 Frame.cells u (btw hs kind a b (j + 1)) := fun hn => by
      simp only [btw, if_neg hn, List.append_nil]; exact g5
    simp (disch := omega) [-hset_if, -Bool.decide_and, hset_ne]
    refine gif_dec (fun h1 => ?_) (fun h1 => ?_)
    · simp (disch := omega) [-hset_if, -Bool.decide_and, hset_ne]
      refine gif_dec (fun h2 => ?_) (fun h2 => ?_)
      · simp (disch := omega) [-hset_if, -Bool.decide_and, hset_ne, hs1.ix elemS33, hs1.load shp3, hs1.load0 shp3]
        refine gif_beq (fun h3 => ?_) (fun h3 => ?_)
        · simp (disch := omega) [-hset_if, -Bool.decide_and, hset_ne, hs1.ix elemS33, hs1.load shp3, hs1.load0 shp3, Addr.add_add]
          refine cif_beq (fun h4 => ?_) (fun h4 => ?_)
          · simp (disch := omega) [-hset_if, -Bool.decide_and, hset_ne, hs1.ix elemS33, hs1.load shp25]
            refine g5.push elemS22 zero25 rfl (at_ hs (j : Int)).frame rfl rfl rfl (by omega) (by omega) ?_
            intro v2 n2 H2 D2 p1 p2 p3 p4 p5
            simp (disch := omega) [-hset_if, -Bool.decide_and, hset_ne]
            refine Next.mk ⟨j + 1, v2, D2⟩ (by first | omega | (simp only; omega)) (by simp (disch := omega) [-hset_if, -Bool.decide_and, hset_ne]) ⟨by simp only; omega, by omega, fun q hq => ?_, fun q hq => ?_, ?_⟩
            · rw [p3 q (by omega) (fun h => by have := g4 q h; omega), g3 q hq]
            · rcases p4 q hq with h | h
              · exact g4 q h
              · omega
            · simpa only [btw, if_pos (show a ≤ (j : Int) ∧ (j : Int) ≤ b ∧ (at_ hs (j : Int)).what = 1 ∧ (at_ hs (j : Int)).frame.kind = kind from ⟨h1, h2, h3, h4⟩)] using p5
          · simp (disch := omega) [-hset_if, -Bool.decide_and, hset_ne]
            refine Next.mk ⟨j + 1, u, E⟩ (by first | omega | (simp only; omega)) (by simp (disch := omega) [-hset_if, -Bool.decide_and, hset_ne]) ⟨by simp only; omega, by omega, g3, g4, no (fun hc => h4 hc.2.2.2)⟩
        · simp (disch := omega) [-hset_if, -Bool.decide_and, hset_ne]
          refine Next.mk ⟨j + 1, u, E⟩ (by first | omega | (simp only; omega)) (by simp (disch := omega) [-hset_if, -Bool.decide_and, hset_ne]) ⟨by simp only; omega, by omega, g3, g4, no (fun hc => h3 hc.2.2.1)⟩
      · simp (disch := omega) [-hset_if, -Bool.decide_and, hset_ne]
        refine Next.mk ⟨j + 1, u, E⟩ (by first | omega | (simp only; omega)) (by simp (disch := omega) [-hset_if, -Bool.decide_and, hset_ne]) ⟨by simp only; omega, by omega, g3, g4, no (fun hc => h2 hc.2.1)⟩
    · simp (disch := omega) [-hset_if, -Bool.decide_and, hset_ne]
      refine Next.mk ⟨j + 1, u, E⟩ (by first | omega | (simp only; omega)) (by simp (disch := omega) [-hset_if, -Bool.decide_and, hset_ne]) ⟨by simp only; omega, by omega, g3, g4, no (fun hc => h1 hc.1)⟩
  · simp (disch := omega) [-hset_if, -Bool.decide_and, hset_ne]
    refine Fin_id ?_
    obtain rfl : j = hs.length := by omega
    exact hk _ _ _ _ g2 g3 g4 g5
theorem same_ok {u : Value} {E : Nat → Prop} {xs ys : List Frame} (h1 : SlR ⟨Try.prog, w0⟩ H D 4 Frame.cells v xs) (h2 : SlR ⟨Try.prog, w0⟩ H E 4 Frame.cells u ys) (hb : xs.length ≤ 1000000) (hk : K (.bool (decide (xs = ys))) n H) :
    ACall ⟨Try.prog, w0⟩ 20 [v, u] K n H := by
  refine ACall.run Try.func20 rfl Try.ntmps20 Try.results20 (by simp) fun J0 => ?_
  simp (disch := omega) [-hset_if, -Bool.decide_and, hset_ne, h1.lenK, h2.lenK]
  refine cif_bne (fun hl => ?_) (fun hl => ?_)
  · simp (disch := omega) [-hset_if, -Bool.decide_and, hset_ne]
    refine AW.while (σ := Nat) (fun j => xs.length - j) (fun j => [(0, v), (1, u), (5, .int .i64 j)]) (fun j n1 H1 => j ≤ xs.length ∧ n1 = n ∧ H1 = H ∧ ∀ q, q < j → at_ xs (q : Int) = at_ ys (q : Int)) 0 ?_ ?_ ?_
    · simp (disch := omega) [-hset_if, -Bool.decide_and, hset_ne]
    · exact ⟨by omega, rfl, rfl, fun q hq => by omega⟩
    rintro j n1 H1 ⟨g1, rfl, rfl, g4⟩
    simp (disch := omega) [-hset_if, -Bool.decide_and, hset_ne, h1.lenK]
    refine cif_dec (fun h => ?_) (fun h => ?_)
    · simp (disch := omega) [-hset_if, -Bool.decide_and, hset_ne]
      refine AW.draw (X := ⟨_, 26, _, _⟩) (id := 6) mixed (.take 0 <| .take 1 <| .take 2 <| .take 3 <| .take 4 <| .take 5 <| .take 6 <| .take 7 <| .take 8 <| .done) (by kernel_rfl) ?_
      simp (disch := omega) [-hset_if, -Bool.decide_and, hset_ne, h1.ix elemS22, h1.load0 shp25, h2.ix elemS22, h2.load0 shp25]
      refine cif_dec (fun he => ?_) (fun he => ?_)
      · simp (disch := omega) [-hset_if, -Bool.decide_and, hset_ne]
        refine Next.mk (j + 1) (by first | omega | (simp only; omega)) (by simp (disch := omega) [-hset_if, -Bool.decide_and, hset_ne]) ⟨by omega, rfl, rfl, fun q hq => ?_⟩
        by_cases hq2 : q < j
        · exact g4 q hq2
        · obtain rfl : q = j := by omega
          obtain ⟨e1, e2, e3, e4⟩ := he
          generalize at_ xs (q : Int) = x at *
          generalize at_ ys (q : Int) = y at *
          cases x; cases y; simp_all
      · simp (disch := omega) [-hset_if, -Bool.decide_and, hset_ne]
        refine Fin_id ?_
        rw [decide_eq_false (fun e => he (by rw [e]; exact ⟨rfl, rfl, rfl, rfl⟩))] at hk
        exact hk
    · simp (disch := omega) [-hset_if, -Bool.decide_and, hset_ne]
      refine Fin_id ?_
      have e : xs = ys := by
        refine List.ext_getElem (by omega) fun q q1 q2 => ?_
        have := g4 q (by omega)
        rwa [at_nat q1, at_nat q2] at this
      rw [decide_eq_true e] at hk
      exact hk
  · simp (disch := omega) [-hset_if, -Bool.decide_and, hset_ne]
    refine Fin_id ?_
    rw [decide_eq_false (fun e => hl (by rw [e]))] at hk
    exact hk
end Go.Aw.S46
