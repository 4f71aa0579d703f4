/-
  Chapter 15: ask, fans, awake.
-/
import Derived.Test.YtmgadjflgiokeaaS15l
namespace Go.Aw.S15
open Go.RowKit Go.Proofs Go.Aw.Tab
set_option linter.unusedSimpArgs false
set_option linter.unusedVariables false
set_option maxRecDepth 10000
set_option maxHeartbeats 1000000
set_option pp.deepTerms false
set_option pp.deepTerms.threshold 4
set_option pp.maxSteps 1500
attribute [local simp] Req.cells range_get
variable {w0 : World} {n : Nat} {H : Heap} {K : Value → Nat → Heap → Prop} {s : ByteArray}
def intC (x : Int) : List Value := [.int .i64 x]
def askR (x : Int) : Req := if x = 0 then ⟨17, 2, 0⟩ else ⟨x, 2, 1⟩
theorem askR_0 {x : Int} (h : x = 0) : askR x = ⟨17, 2, 0⟩ := if_pos h
theorem askR_1 {x : Int} (h : x ≠ 0) : askR x = ⟨x, 2, 1⟩ := if_neg h
theorem ask_ok {lv : Value} {D : Nat → Prop} {ls : List Int} (hs : SlR ⟨Try.prog, w0⟩ H D 1 intC lv ls) (hD : ∀ i, D i → i < n) (hb : ls.length ≤ 1000000)
    (hk : ∀ n' H' v E, n ≤ n' → (∀ i, i < n → H' i = H i) → (∀ i, E i → n ≤ i) → OwR ⟨Try.prog, w0⟩ H' n' E 96 3 Req.cells v (ls.map askR) → K v n' H') :
    ACall ⟨Try.prog, w0⟩ 26 [lv] K n H := by
  refine ACall.run Try.func26 rfl Try.ntmps26 Try.results26 (by simp) fun J0 => ?_
  simp (disch := omega) [-hset_if, -Bool.decide_and, hset_ne]
  refine AW.while (σ := LS) (fun s => ls.length - s.j) (fun s => [(0, lv), (3, s.v), (4, .int .i64 s.j)])
    (fun s n' H' => s.j ≤ ls.length ∧ n ≤ n' ∧ (∀ i, i < n → H' i = H i) ∧ (∀ i, s.E i → n ≤ i) ∧ OwR ⟨Try.prog, w0⟩ H' n' s.E 96 3 Req.cells s.v ((ls.take s.j).map askR)) ⟨0, .slice (some ⟨new n, 0, none⟩) 0 0, (· = n)⟩ ?_ ?_ ?_
  · simp (disch := omega) [-hset_if, -Bool.decide_and, hset_ne]
  · exact ⟨by simp, by omega, (fun i hi => by simp (disch := omega) only [hset_ne]), fun _ h => by omega, OwR.empty (by omega) (by omega) (by simp)⟩
  rintro ⟨j, v, E⟩ n2 H2 ⟨g1, g2, g3, g4, g5⟩
  dsimp only at g1 g2 g3 g4 g5
  have hs1 : SlR ⟨Try.prog, w0⟩ H2 D 1 intC lv ls := hs.frame (fun i hi => g3 i (hD i hi))
  simp (disch := omega) [-hset_if, -Bool.decide_and, hset_ne, hs1.lenK]
  refine cif_dec (fun h => ?_) (fun h => ?_)
  · have hlen : ((ls.take j).map askR).length = j := by simp; omega
    simp (disch := omega) [-hset_if, -Bool.decide_and, hset_ne, hs1.ix elemS60, hs1.load0 shp3, intC]
    refine cif_beq (fun h1 => ?_) (fun h1 => ?_)
    · simp (disch := omega) [-hset_if, -Bool.decide_and, hset_ne]
      refine g5.push elemS25 zero96 rfl (askR (at_ ls (j : Int))) (by rw [askR_0 h1]; rfl) (by rw [askR_0 h1]; rfl) (by rw [askR_0 h1]; rfl) (by omega) (by omega) ?_
      intro v2 n3 H3 D2 p1 p2 p3 p4 p5
      simp (disch := omega) [-hset_if, -Bool.decide_and, hset_ne]
      refine Next.mk ⟨j + 1, v2, D2⟩ (by simp only; omega) (by simp (disch := omega) [-hset_if, -Bool.decide_and, hset_ne]) ⟨by simp only; omega, by omega, fun q hq => by rw [p3 q (by omega) (fun h => by have := g4 q h; omega), g3 q hq], fun q hq => ?_, ?_⟩
      · rcases p4 q hq with h | h
        · exact g4 q h
        · omega
      · have e : (ls.take (j + 1)).map askR = (ls.take j).map askR ++ [askR ls[j]] := by rw [List.take_succ_eq_append_getElem h, List.map_append]; rfl
        rw [at_nat h, ← e] at p5
        first | exact p5 | (rw [List.map_take] at p5; exact p5)
    · simp (disch := omega) [-hset_if, -Bool.decide_and, hset_ne, hs1.ix elemS60, hs1.load0 shp3, intC]
      refine g5.push elemS25 zero96 rfl (askR (at_ ls (j : Int))) (by rw [askR_1 h1]; rfl) (by rw [askR_1 h1]; rfl) (by rw [askR_1 h1]; rfl) (by omega) (by omega) ?_
      intro v2 n3 H3 D2 p1 p2 p3 p4 p5
      simp (disch := omega) [-hset_if, -Bool.decide_and, hset_ne]
      refine Next.mk ⟨j + 1, v2, D2⟩ (by simp only; omega) (by simp (disch := omega) [-hset_if, -Bool.decide_and, hset_ne]) ⟨by simp only; omega, by omega, fun q hq => by rw [p3 q (by omega) (fun h => by have := g4 q h; omega), g3 q hq], fun q hq => ?_, ?_⟩
      · rcases p4 q hq with h | h
        · exact g4 q h
        · omega
      · have e : (ls.take (j + 1)).map askR = (ls.take j).map askR ++ [askR ls[j]] := by rw [List.take_succ_eq_append_getElem h, List.map_append]; rfl
        rw [at_nat h, ← e] at p5
        first | exact p5 | (rw [List.map_take] at p5; exact p5)
  · simp (disch := omega) [-hset_if, -Bool.decide_and, hset_ne]
    refine Fin_id ?_
    rw [List.take_of_length_le (by omega)] at g5
    exact hk _ _ _ _ g2 g3 g4 g5
def fansP : List ByteArray := [⟨#[97]⟩, ⟨#[98]⟩, ⟨#[99]⟩]
theorem fans_ok (hk : ∀ n' H' v E, n ≤ n' → (∀ i, i < n → H' i = H i) → (∀ i, E i → n ≤ i) → OwR ⟨Try.prog, w0⟩ H' n' E 9 1 strC v fansP → K (.agg #[.string ⟨#[102, 97, 110, 115]⟩, v, .int .i64 10]) n' H') : ACall ⟨Try.prog, w0⟩ 34 [] K n H := by
  refine ACall.run Try.func34 rfl Try.ntmps34 Try.results34 (by simp) fun J0 => ?_
  simp (disch := omega) [-hset_if, -Bool.decide_and, hset_ne]
  refine Fin_id ?_
  refine hk _ _ _ (· = n + 1) ?_ ?_ ?_ (OwR.lit (cs := fansP.flatMap strC) (by omega) (by simp [fansP, strC]) (by omega) (by simp (disch := omega) [-hset_if, -Bool.decide_and, hset_ne, fansP, strC]) rfl rfl)
  · omega
  · exact (fun i hi => by simp (disch := omega) only [hset_ne])
  · exact fun _ h => by omega
end Go.Aw.S15
