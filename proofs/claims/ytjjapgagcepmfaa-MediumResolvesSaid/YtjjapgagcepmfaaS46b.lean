/-
  Chapter 46: MediumResolves.
-/
import Derived.Test.YtjjapgagcepmfaaS46w
namespace Go.Aw.S46
open Go.RowKit Go.Proofs Go.Aw.Tab
attribute [local simp] Frame.cells Heard.cells
set_option maxRecDepth 10000
set_option maxHeartbeats 1000000
set_option linter.unusedSimpArgs false
set_option pp.deepTerms false
set_option pp.deepTerms.threshold 4
set_option pp.maxSteps 1500
variable {w0 : World} {n : Nat} {H : Heap} {K : Value → Nat → Heap → Prop}
structure B1 where
  vb : Value
  D : Nat → Prop
  k : Nat
theorem resolves_ok {v : Value} {fs : List Frame} {d : Bool} (hs : SlR ⟨Try.prog, w0⟩ H (fun _ => False) 4 Frame.cells v fs)
    (hk : ∀ n' H', K (.bool true) n' H') : ACall ⟨Try.prog, w0⟩ 3 [v, .bool d] K n H := by
  refine ACall.run Try.func3 rfl Try.ntmps3 Try.results3 (by simp) fun J0 => ?_
  simp (disch := omega)
  refine awake_ok _ _ _ _ ?_
  simp (disch := omega) [hs.lenK]
  refine cif_dec (fun h8 => ?_) (fun h8 => ?_)
  · simp (disch := omega)
    exact Fin_id (hk _ _)
  simp (disch := omega) [hs.lenK]
  refine AW.while (σ := B1) (·.k) (fun s => [(0, v), (1, .bool d), (5, s.vb), (6, .int .i64 (s.k - 1))])
    (fun s n1 H1 => s.k ≤ fs.length ∧ n ≤ n1 ∧ OwR ⟨Try.prog, w0⟩ H1 n1 s.D 25 4 Frame.cells s.vb (fs.drop s.k).reverse)
    ⟨.slice (some ⟨new n, 0, none⟩) 0 0, (· = n), fs.length⟩ ?_ ?_ ?_
  · simp (disch := omega)
  · exact ⟨Nat.le_refl _, by omega, by simpa using OwR.empty (by omega) (by omega) (by simp)⟩
  rintro ⟨vb, D, k⟩ n1 H1 ⟨g1, g2, g3⟩
  dsimp only at g1 g2 g3
  simp (disch := omega)
  refine cif_dec (fun h => ?_) (fun h => ?_)
  · replace hs : SlR ⟨Try.prog, w0⟩ H1 (fun _ => False) 4 Frame.cells v fs := hs.frame (fun _ h => h.elim)
    simp (disch := omega) [hs.ix elemS22, hs.fresh0 (n := n1) (fun _ h => h.elim), hs.load0 shp25]
    refine g3.push elemS22 zero25 rfl (at_ fs (k - 1)) rfl rfl rfl (by simp; omega) (by simp; omega) ?_
    intro v2 n2 H2 D2 q1 q2 q3 q4 q5
    simp (disch := omega)
    refine Next.mk ⟨v2, D2, k - 1⟩ (by simp only; omega) ?_ ⟨by simp only; omega, by omega, ?_⟩
    · simp (disch := omega); omega
    · have e : (fs.drop (k - 1)).reverse = (fs.drop k).reverse ++ [at_ fs (k - 1)] := by
        rw [List.drop_eq_getElem_cons (by omega : k - 1 < fs.length), List.reverse_cons, show k - 1 + 1 = k from by omega, at_lt (by omega) (by omega)]
        congr 3; omega
      simpa only [e] using q5
  · have hs1 : SlR ⟨Try.prog, w0⟩ H1 (fun _ => False) 4 Frame.cells v fs := hs.frame (fun _ h => h.elim)
    simp (disch := omega)
    refine resolve_ok hs1 (fun _ h => h.elim) ?_
    intro n2 H2 q1 q2
    have hs2 : SlR ⟨Try.prog, w0⟩ H2 (fun _ => False) 4 Frame.cells v fs := hs.frame (fun _ h => h.elim)
    simp (disch := omega)
    refine AW.draw (X := ⟨_, 43, _, _⟩) (id := 11) mixed (.take 0 <| .take 1 <| .take 2 <| .each 3 [0] (.take 4 <| .take 5 <| .take 6 <| .take 7 <| .take 9 <| .each 8 [9] (.take 10 <| .take 11 <| .take 12 <| .done) <| .stop) <| .stop) (by kernel_rfl) ?_
    simp (disch := omega)
    refine refResolve_ok (hs.frame (fun _ h => h.elim)) (fun _ h => h.elim) ?_
    intro n3 H3 q3 q4
    simp (disch := omega) [q4]
    have hlt := g3.lt
    have hb : SlR ⟨Try.prog, w0⟩ H3 D 4 Frame.cells vb (fs.drop k).reverse := g3.sl.frame (fun i hi => by
      have := hlt i hi
      rw [q4 i (by omega), hset_ne (by omega), q2 i this])
    refine resolve_ok hb (fun i hi => by have := hlt i hi; omega) ?_
    intro n4 H4 q5 q6
    have e : resolve (fs.drop k).reverse d = resolve fs d := by
      obtain rfl : k = 0 := by omega
      unfold resolve
      rw [List.drop_zero, List.length_reverse]
      by_cases h1 : fs.length = 1
      · obtain ⟨x, rfl⟩ := List.length_eq_one_iff.1 h1
        rfl
      · simp [h1]
    rw [e]
    simp (disch := omega) [q6, q4]
    exact Fin_id (hk _ _)
end Go.Aw.S46
