/-
  Chapter 46: frames of a span, lists compared.
-/
import Derived.Test.YtjjapgagcepmfaaS46e
namespace Go.Aw.S46
open Go.RowKit Go.Proofs Go.Aw.Tab
attribute [local simp] Frame.cells Heard.cells
set_option linter.unusedSimpArgs false
set_option maxRecDepth 10000
set_option maxHeartbeats 1000000
set_option pp.deepTerms false
set_option pp.deepTerms.threshold 4
set_option pp.maxSteps 1500
variable {w0 : World} {n : Nat} {H : Heap} {K : Value → Nat → Heap → Prop} {k : Nat} {v : Value} {D : Nat → Prop} {hs : List Heard}
/-- Of the first i slots the frames of a kind in a span. -/
def btw (hs : List Heard) (kind a b : Int) : Nat → List Frame
  | 0 => []
  | i + 1 => btw hs kind a b i ++ if a ≤ (i : Int) ∧ (i : Int) ≤ b ∧ (at_ hs (i : Int)).what = 1 ∧ (at_ hs (i : Int)).frame.kind = kind then [(at_ hs (i : Int)).frame] else []
theorem btw_len (hs : List Heard) (kind a b : Int) : ∀ i, (btw hs kind a b i).length ≤ i
  | 0 => by simp [btw]
  | i + 1 => by
    have := btw_len hs kind a b i
    simp only [btw, List.length_append]
    split <;> simp <;> omega
structure BS where
  i : Nat
  v : Value
  D : Nat → Prop
theorem between_ok (hm : Med w0 H n k v D hs) (kind a b : Int) (hb : hs.length ≤ 1000000)
    (hk : ∀ u n' H' E, n ≤ n' → (∀ i, i < n → H' i = H i) → (∀ i, E i → n ≤ i) → OwR ⟨Try.prog, w0⟩ H' n' E 25 4 Frame.cells u (btw hs kind a b hs.length) → K u n' H') :
    ACall ⟨Try.prog, w0⟩ 19 [.pointer (some ⟨new k, 0, none⟩), .int .i64 kind, .int .i64 a, .int .i64 b] K n H := by
  have hlt := hm.lt
  refine ACall.run Try.func19 rfl Try.ntmps19 Try.results19 (by simp) fun J0 => ?_
  simp (disch := omega) [-hset_if, -Bool.decide_and, hset_ne, hm.obj, hm.own.sl.lenK]
  refine AW.while (σ := BS) (fun s => hs.length - s.i) (fun s => [(0, .pointer (some ⟨new k, 0, none⟩)), (1, .int .i64 kind), (2, .int .i64 a), (3, .int .i64 b), (9, s.v), (15, v), (16, .int .i64 hs.length), (17, .int .i64 s.i)])
    (fun s n1 H1 => s.i ≤ hs.length ∧ n ≤ n1 ∧ (∀ i, i < n → H1 i = H i) ∧ (∀ i, s.D i → n ≤ i) ∧ OwR ⟨Try.prog, w0⟩ H1 n1 s.D 25 4 Frame.cells s.v (btw hs kind a b s.i)) ⟨0, .slice none 0 0, fun _ => False⟩ ?_ ?_ ?_
  · simp (disch := omega) [-hset_if, -Bool.decide_and, hset_ne]
  · exact ⟨by simp, by omega, (fun i hi => by simp (disch := omega) only [hset_ne]), fun _ h => h.elim, OwR.nil (by omega)⟩
  rintro ⟨j, u, E⟩ n1 H1 ⟨g1, g2, g3, g4, g5⟩
  dsimp only at g1 g2 g3 g4 g5
  have hm1 : Med w0 H1 n1 k v D hs := hm.frame (by omega) (g3 k hlt) (fun i hi => g3 i (hm.own.lt i hi))
  have hbl := btw_len hs kind a b j
  simp (disch := omega) [-hset_if, -Bool.decide_and, hset_ne]
  refine cif_dec (fun h => ?_) (fun h => ?_)
  · have skip : ¬ (a ≤ (j : Int) ∧ (j : Int) ≤ b ∧ (at_ hs (j : Int)).what = 1 ∧ (at_ hs (j : Int)).frame.kind = kind) → btw hs kind a b (j + 1) = btw hs kind a b j := fun hn => by simp only [btw, if_neg hn, List.append_nil]
    simp (disch := omega) [-hset_if, -Bool.decide_and, hset_ne, hm1.obj, hm1.own.sl.ix elemS33, hm1.own.sl.load0 shp27]
    have no : ¬ (a ≤ (j : Int) ∧ (j : Int) ≤ b ∧ (at_ hs (j : Int)).what = 1 ∧ (at_ hs (j : Int)).frame.kind = kind) → ∀ {o : AObj}, OwR ⟨Try.prog, w0⟩ (hset n1 o H1) (n1 + 1) E 25 4 Frame.cells u (btw hs kind a b (j + 1)) := fun hn o => by
      rw [skip hn]; exact g5.frame (by omega) (fun i hi => hset_ne (by have := g5.lt i hi; omega) _ _)
    refine gif_dec (fun h1 => ?_) (fun h1 => ?_)
    · simp (disch := omega) [-hset_if, -Bool.decide_and, hset_ne]
      refine gif_dec (fun h2 => ?_) (fun h2 => ?_)
      · simp (disch := omega) [-hset_if, -Bool.decide_and, hset_ne]
        refine gif_beq (fun h3 => ?_) (fun h3 => ?_)
        · simp (disch := omega) [-hset_if, -Bool.decide_and, hset_ne]
          refine cif_beq (fun h4 => ?_) (fun h4 => ?_)
          · simp (disch := omega) [-hset_if, -Bool.decide_and, hset_ne]
            have g6 : OwR ⟨Try.prog, w0⟩ (hset n1 (.cells (at_ hs (j : Int)).cells 27 1) H1) (n1 + 1) E 25 4 Frame.cells u (btw hs kind a b j) := g5.frame (by omega) (fun i hi => hset_ne (by have := g5.lt i hi; omega) _ _)
            refine g6.push elemS22 zero25 rfl (at_ hs (j : Int)).frame rfl rfl rfl (by omega) (by omega) ?_
            intro v2 n2 H2 D2 p1 p2 p3 p4 p5
            simp (disch := omega) [-hset_if, -Bool.decide_and, hset_ne]
            refine Next.mk ⟨j + 1, v2, D2⟩ (by first | omega | (simp only; omega)) (by simp (disch := omega) [-hset_if, -Bool.decide_and, hset_ne]) ⟨by simp only; omega, by omega, fun q hq => ?_, fun q hq => ?_, ?_⟩
            · rw [p3 q (by omega) (fun h => by have := g4 q h; omega), hset_ne (by omega), g3 q hq]
            · rcases p4 q hq with h | h
              · exact g4 q h
              · omega
            · simpa only [btw, if_pos (show a ≤ (j : Int) ∧ (j : Int) ≤ b ∧ (at_ hs (j : Int)).what = 1 ∧ (at_ hs (j : Int)).frame.kind = kind from ⟨h1, h2, h3, h4⟩)] using p5
          · simp (disch := omega) [-hset_if, -Bool.decide_and, hset_ne]
            refine Next.mk ⟨j + 1, u, E⟩ (by first | omega | (simp only; omega)) (by simp (disch := omega) [-hset_if, -Bool.decide_and, hset_ne]) ⟨by simp only; omega, by omega, fun q hq => by simp (disch := omega) [-hset_if, -Bool.decide_and, hset_ne, g3], g4, no (fun hc => h4 hc.2.2.2)⟩
        · simp (disch := omega) [-hset_if, -Bool.decide_and, hset_ne]
          refine Next.mk ⟨j + 1, u, E⟩ (by first | omega | (simp only; omega)) (by simp (disch := omega) [-hset_if, -Bool.decide_and, hset_ne]) ⟨by simp only; omega, by omega, fun q hq => by simp (disch := omega) [-hset_if, -Bool.decide_and, hset_ne, g3], g4, no (fun hc => h3 hc.2.2.1)⟩
      · simp (disch := omega) [-hset_if, -Bool.decide_and, hset_ne]
        refine Next.mk ⟨j + 1, u, E⟩ (by first | omega | (simp only; omega)) (by simp (disch := omega) [-hset_if, -Bool.decide_and, hset_ne]) ⟨by simp only; omega, by omega, fun q hq => by simp (disch := omega) [-hset_if, -Bool.decide_and, hset_ne, g3], g4, no (fun hc => h2 hc.2.1)⟩
    · simp (disch := omega) [-hset_if, -Bool.decide_and, hset_ne]
      refine Next.mk ⟨j + 1, u, E⟩ (by first | omega | (simp only; omega)) (by simp (disch := omega) [-hset_if, -Bool.decide_and, hset_ne]) ⟨by simp only; omega, by omega, fun q hq => by simp (disch := omega) [-hset_if, -Bool.decide_and, hset_ne, g3], g4, no (fun hc => h1 hc.1)⟩
  · simp (disch := omega) [-hset_if, -Bool.decide_and, hset_ne]
    refine Fin_id ?_
    obtain rfl : j = hs.length := by omega
    exact hk _ _ _ _ g2 g3 g4 g5
end Go.Aw.S46
