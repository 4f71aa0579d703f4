/-
  Chapter 56: the reference's order.
-/
import Derived.Test.YtmppccnafhckoaaS56f
import Derived.Test.YtmppccnafhckoaaAw17
namespace Go.Aw.S56
open Go.RowKit Go.Proofs Go.Aw.Tab
set_option linter.unusedSimpArgs false
set_option linter.unusedVariables false
set_option maxRecDepth 10000
set_option maxHeartbeats 1000000
set_option pp.deepTerms false
set_option pp.deepTerms.threshold 4
set_option pp.maxSteps 1500
attribute [local simp] Load.cells Sta.cells intC
variable {w0 : World} {n : Nat} {H : Heap} {K : Value → Nat → Heap → Prop} {pv sv ov : Value} {D E F : Nat → Prop} {l : List Load} {s : List Sta} {o : List Int}
/-- The reference's order. -/
theorem orderR_ok (hl : l.length ≤ 64) (hs : SlR ⟨Try.prog, w0⟩ H D 5 Load.cells pv l) (hD : ∀ i, D i → i < n)
    (hk : ∀ v n' H' E, n ≤ n' → (∀ i, i < n → H' i = H i) → (∀ i, E i → n ≤ i ∧ i < n') → OwR ⟨Try.prog, w0⟩ H' n' E 3 1 intC v (ordR l) → K v n' H') : ACall ⟨Try.prog, w0⟩ 15 [pv] K n H := by
  refine ACall.run Try.func15 rfl Try.ntmps15 Try.results15 (by simp) fun J0 => ?_
  simp (disch := omega) [-hset_if, -Bool.decide_and, hset_ne]
  refine AW.while (σ := Nat × Value) (fun s => l.length - s.1) (fun s => [(0, pv), (3, s.2), (4, .int .i64 s.1)])
    (fun s n1 H1 => n ≤ n1 ∧ (∀ i, i < n → H1 i = H i) ∧ s.1 ≤ l.length ∧ ∃ E, (∀ i, E i → n ≤ i ∧ i < n1) ∧ OwR ⟨Try.prog, w0⟩ H1 n1 E 3 1 intC s.2 (ordF l s.1)) (0, .slice (some ⟨new n, 0, none⟩) 0 0) ?_ ?_ ?_
  · simp (disch := omega) [-hset_if, -Bool.decide_and, hset_ne]
  · exact ⟨by omega, fun i hi => by rw [hset_ne (by omega)], by simp, (· = n), fun i hi => by omega, OwR.empty (by omega) (by omega) (hset_same _ _ _)⟩
  rintro ⟨j, v⟩ n1 H1 ⟨g1, g2, g3, E, g4, g5⟩
  dsimp only at g3 g5 ⊢
  have hs1 : SlR ⟨Try.prog, w0⟩ H1 D 5 Load.cells pv l := hs.frame (fun i hi => g2 i (hD i hi))
  have hlen := ordF_len (l := l) j
  simp (disch := omega) [-hset_if, -Bool.decide_and, hset_ne, hs1.lenK]
  refine cif_dec (fun h => ?_) (fun h => ?_)
  · simp (disch := omega) [-hset_if, -Bool.decide_and, hset_ne]
    refine AW.while (σ := Nat) (fun a => j - a) (fun a => [(0, pv), (3, v), (4, .int .i64 j), (5, .int .i64 a)])
      (fun a n2 H2 => n2 = n1 ∧ H2 = H1 ∧ a ≤ j ∧ ∀ q, q < a → B l (at_ (ordF l j) (q : Int)) (j : Int) = true) 0 ?_ ?_ ?_
    · simp (disch := omega) [-hset_if, -Bool.decide_and, hset_ne]
    · exact ⟨rfl, rfl, by omega, fun q hq => by omega⟩
    rintro a n2 H2 ⟨rfl, rfl, f1, f2⟩
    refine AW.draw (X := ⟨_, 46, _, _⟩) (id := 6) mixed (.take 0 <| .take 1 <| .take 2 <| .take 3 <| .take 4 <| .take 5 <| .take 6 <| .take 7 <| .take 8 <| .take 9 <| .take 10 <| .take 11 <| .take 12 <| .take 13 <| .take 14 <| .take 15 <| .each 16 [] (.take 17 <| .done) <| .stop) (by kernel_rfl) ?_
    simp (disch := omega) [-hset_if, -Bool.decide_and, hset_ne, g5.sl.lenK]
    refine gif_dec (fun h2 => ?_) (fun h2 => ?_)
    · have hm : 0 ≤ at_ (ordF l j) (a : Int) ∧ at_ (ordF l j) (a : Int) < l.length := by
        have := ordF_mem.1 (at_mem (l := ordF l j) (j := a) (by omega))
        omega
      have hg1 := hm.1
      have hg2 := hm.2
      simp (disch := omega) [-hset_if, -Bool.decide_and, hset_ne, g5.sl.ix elemS24, g5.sl.load0 shp3, hs1.ix elemS22, hs1.load0 shp42]
      refine before_ok (at_ l (at_ (ordF l j) (a : Int))) (at_ l (j : Int)) ?_
      have hB : bef (at_ l (at_ (ordF l j) (a : Int))) (at_ l (j : Int)) = B l (at_ (ordF l j) (a : Int)) (j : Int) := rfl
      rw [hB]
      simp (disch := omega) [-hset_if, -Bool.decide_and, hset_ne]
      refine cif_var (fun h3 => ?_) (fun h3 => ?_)
      · simp (disch := omega) [-hset_if, -Bool.decide_and, hset_ne]
        exact Next.mk (a + 1) (by first | omega | (dsimp only; omega)) (by simp (disch := omega) [-hset_if, -Bool.decide_and, hset_ne]) ⟨rfl, rfl, by omega, fun q hq => by
          by_cases e : q = a
          · subst e; exact h3
          · exact f2 q (by omega)⟩
      · simp (disch := omega) [-hset_if, -Bool.decide_and, hset_ne]
        have f3 : a < (ordF l j).length → B l (at_ (ordF l j) (a : Int)) (j : Int) = false := fun _ => h3
        obtain ⟨t1, t2⟩ := take_while (xs := ordF l j) (p := fun k => B l k (j : Int)) (a := a) (by omega) f2 f3
        refine AW.draw (X := ⟨_, 46, _, _⟩) (id := 8) mixed (.take 1 <| .take 2 <| .take 3 <| .take 5 <| .take 8 <| .take 9 <| .take 10 <| .each 0 [1, 2, 3, 5, 8, 9, 10] (.each 4 [5, 8, 9, 10] (.each 6 [8, 9, 10] (.each 7 [8, 9, 10] (.each 11 [] (.take 12 <| .done) <| .stop) <| .stop) <| .stop) <| .each 6 [1, 2, 3, 8, 9, 10] (.each 4 [8, 9, 10] (.each 7 [8, 9, 10] (.each 11 [] (.take 12 <| .done) <| .stop) <| .stop) <| .stop) <| .stop) <| .each 6 [1, 2, 3, 8, 9, 10] (.each 0 [1, 2, 3, 8, 9, 10] (.each 4 [8, 9, 10] (.each 7 [8, 9, 10] (.each 11 [] (.take 12 <| .done) <| .stop) <| .stop) <| .stop) <| .stop) <| .stop) (by kernel_rfl) ?_
        simp (disch := omega) [-hset_if, -Bool.decide_and, hset_ne]
        refine SlR.head g5.sl tk24 elemS24 (show a ≤ (ordF l j).length by omega) ?_
        intro v1 hv1
        simp (disch := omega) [-hset_if, -Bool.decide_and, hset_ne]
        refine SlR.tail g5.sl tk24 elemS24 (show a ≤ (ordF l j).length by omega) ?_
        intro v4 hv4
        simp (disch := omega) [-hset_if, -Bool.decide_and, hset_ne]
        refine ⟨⟨?_, ?_⟩, ?_⟩
        · have hv1' : SlR ⟨Try.prog, w0⟩ (hset n2 (.cells [] 3 1) H2) E 1 intC v1 ((ordF l j).take a) := hv1.frame (fun i hi => by have := g4 i hi; rw [hset_ne (by omega)])
          refine (OwR.empty (C := ⟨Try.prog, w0⟩) (f := intC) (T := 3) (sz := 1) (n := n2 + 1) (j := n2) (H := hset n2 (.cells [] 3 1) H2) (by omega) (by omega) (hset_same _ _ _)).appendS elemS24 zero3 (by simp) hv1' (fun _ _ => rfl) (by simp; omega) (by simp; omega) ?_
          intro v2 n3 H3 D3 b1 b2 b3 b4 b5
          have b4' : ∀ i, D3 i → i = n2 ∨ i = n2 + 1 := b4
          have hf3 : ∀ i, i < n2 → H3 i = H2 i := fun i hi => by rw [b3 i (by omega) (show ¬ i = n2 by omega), hset_ne (by omega)]
          simp (disch := omega) [-hset_if, -Bool.decide_and, hset_ne]
          refine b5.push elemS24 zero3 (by simp) (j : Int) rfl rfl rfl (by simp; omega) (by simp; omega) ?_
          intro v3 n4 H4 D4 c1 c2 c3 c4 c5
          have hE4 : ∀ i, D4 i → n2 ≤ i := fun i hi => by
            rcases c4 i hi with c | c
            · rcases b4' i c with c | c <;> omega
            · omega
          have hf4 : ∀ i, i < n2 → H4 i = H2 i := fun i hi => by
            rw [c3 i (by omega) (fun hd => by rcases b4' i hd with c | c <;> omega), hf3 i hi]
          simp (disch := omega) [-hset_if, -Bool.decide_and, hset_ne]
          have hv4' : SlR ⟨Try.prog, w0⟩ H4 E 1 intC v4 ((ordF l j).drop a) := hv4.frame (fun i hi => hf4 i (by have := g4 i hi; omega))
          refine c5.appendS elemS24 zero3 (by simp) hv4' (fun _ _ => rfl) (by simp; omega) (by simp; omega) ?_
          intro v5 n5 H5 D5 d1 d2 d3 d4 d5
          simp (disch := omega) [-hset_if, -Bool.decide_and, hset_ne]
          refine Next.mk (j + 1, v5) (by first | omega | (dsimp only; omega)) (by simp (disch := omega) [-hset_if, -Bool.decide_and, hset_ne]) ⟨by omega, fun i hi => ?_, (by first | omega | (dsimp only; omega)), D5, fun i hi => ⟨?_, d5.lt i hi⟩, ?_⟩
          · rw [d3 i (by omega) (fun hd => by have := hE4 i hd; omega), hf4 i (by omega), g2 i hi]
          · rcases d4 i hi with c | c
            · have := hE4 i c; omega
            · omega
          · dsimp only
            rw [ordF, insW, ← t1, ← t2]
            simpa using d5
        · have hv1' : SlR ⟨Try.prog, w0⟩ (hset (n2 + 1) (.cells [.int .i64 j] 3 1) (hset n2 (.cells [] 3 1) H2)) E 1 intC v1 ((ordF l j).take a) := hv1.frame (fun i hi => by have := g4 i hi; rw [hset_ne (by omega), hset_ne (by omega)])
          refine (OwR.empty (C := ⟨Try.prog, w0⟩) (f := intC) (T := 3) (sz := 1) (n := n2 + 1 + 1) (j := n2) (H := hset (n2 + 1) (.cells [.int .i64 j] 3 1) (hset n2 (.cells [] 3 1) H2)) (by omega) (by omega) ((by rw [hset_ne (by omega), hset_same]))).appendS elemS24 zero3 (by simp) hv1' (fun _ _ => rfl) (by simp; omega) (by simp; omega) ?_
          intro v2 n3 H3 D3 b1 b2 b3 b4 b5
          have b4' : ∀ i, D3 i → i = n2 ∨ i = n2 + 1 + 1 := b4
          have hf3 : ∀ i, i < n2 → H3 i = H2 i := fun i hi => by rw [b3 i (by omega) (show ¬ i = n2 by omega), hset_ne (by omega), hset_ne (by omega)]
          simp (disch := omega) [-hset_if, -Bool.decide_and, hset_ne]
          have q3 : SlR ⟨Try.prog, w0⟩ H3 (· = n2 + 1) 1 intC (.slice (some ⟨new (n2 + 1), 0, none⟩) 1 1) [(j : Int)] := (OwR.lit (n := n3) (T := 3) (j := n2 + 1) (by omega) (by simp) (by omega) (by rw [b3 _ (by omega) (show ¬ n2 + 1 = n2 by omega), hset_same]; rfl) rfl (by simp)).sl
          refine b5.appendS elemS24 zero3 (by simp) q3 (fun _ _ => rfl) (by simp; omega) (by simp; omega) ?_
          intro v3 n4 H4 D4 c1 c2 c3 c4 c5
          have hE4 : ∀ i, D4 i → n2 ≤ i := fun i hi => by
            rcases c4 i hi with c | c
            · rcases b4' i c with c | c <;> omega
            · omega
          have hf4 : ∀ i, i < n2 → H4 i = H2 i := fun i hi => by
            rw [c3 i (by omega) (fun hd => by rcases b4' i hd with c | c <;> omega), hf3 i hi]
          simp (disch := omega) [-hset_if, -Bool.decide_and, hset_ne]
          have hv4' : SlR ⟨Try.prog, w0⟩ H4 E 1 intC v4 ((ordF l j).drop a) := hv4.frame (fun i hi => hf4 i (by have := g4 i hi; omega))
          refine c5.appendS elemS24 zero3 (by simp) hv4' (fun _ _ => rfl) (by simp; omega) (by simp; omega) ?_
          intro v5 n5 H5 D5 d1 d2 d3 d4 d5
          simp (disch := omega) [-hset_if, -Bool.decide_and, hset_ne]
          refine Next.mk (j + 1, v5) (by first | omega | (dsimp only; omega)) (by simp (disch := omega) [-hset_if, -Bool.decide_and, hset_ne]) ⟨by omega, fun i hi => ?_, (by first | omega | (dsimp only; omega)), D5, fun i hi => ⟨?_, d5.lt i hi⟩, ?_⟩
          · rw [d3 i (by omega) (fun hd => by have := hE4 i hd; omega), hf4 i (by omega), g2 i hi]
          · rcases d4 i hi with c | c
            · have := hE4 i c; omega
            · omega
          · dsimp only
            rw [ordF, insW, ← t1, ← t2]
            simpa using d5
        · have hv1' : SlR ⟨Try.prog, w0⟩ (hset (n2 + 1) (.cells [] 3 1) (hset n2 (.cells [.int .i64 j] 3 1) H2)) E 1 intC v1 ((ordF l j).take a) := hv1.frame (fun i hi => by have := g4 i hi; rw [hset_ne (by omega), hset_ne (by omega)])
          refine (OwR.empty (C := ⟨Try.prog, w0⟩) (f := intC) (T := 3) (sz := 1) (n := n2 + 1 + 1) (j := n2 + 1) (H := hset (n2 + 1) (.cells [] 3 1) (hset n2 (.cells [.int .i64 j] 3 1) H2)) (by omega) (by omega) (hset_same _ _ _)).appendS elemS24 zero3 (by simp) hv1' (fun _ _ => rfl) (by simp; omega) (by simp; omega) ?_
          intro v2 n3 H3 D3 b1 b2 b3 b4 b5
          have b4' : ∀ i, D3 i → i = n2 + 1 ∨ i = n2 + 1 + 1 := b4
          have hf3 : ∀ i, i < n2 → H3 i = H2 i := fun i hi => by rw [b3 i (by omega) (show ¬ i = n2 + 1 by omega), hset_ne (by omega), hset_ne (by omega)]
          simp (disch := omega) [-hset_if, -Bool.decide_and, hset_ne]
          have q3 : SlR ⟨Try.prog, w0⟩ H3 (· = n2) 1 intC (.slice (some ⟨new (n2), 0, none⟩) 1 1) [(j : Int)] := (OwR.lit (n := n3) (T := 3) (j := n2) (by omega) (by simp) (by omega) (by rw [b3 _ (by omega) (show ¬ n2 = n2 + 1 by omega), hset_ne (by omega), hset_same]; rfl) rfl (by simp)).sl
          refine b5.appendS elemS24 zero3 (by simp) q3 (fun _ _ => rfl) (by simp; omega) (by simp; omega) ?_
          intro v3 n4 H4 D4 c1 c2 c3 c4 c5
          have hE4 : ∀ i, D4 i → n2 ≤ i := fun i hi => by
            rcases c4 i hi with c | c
            · rcases b4' i c with c | c <;> omega
            · omega
          have hf4 : ∀ i, i < n2 → H4 i = H2 i := fun i hi => by
            rw [c3 i (by omega) (fun hd => by rcases b4' i hd with c | c <;> omega), hf3 i hi]
          simp (disch := omega) [-hset_if, -Bool.decide_and, hset_ne]
          have hv4' : SlR ⟨Try.prog, w0⟩ H4 E 1 intC v4 ((ordF l j).drop a) := hv4.frame (fun i hi => hf4 i (by have := g4 i hi; omega))
          refine c5.appendS elemS24 zero3 (by simp) hv4' (fun _ _ => rfl) (by simp; omega) (by simp; omega) ?_
          intro v5 n5 H5 D5 d1 d2 d3 d4 d5
          simp (disch := omega) [-hset_if, -Bool.decide_and, hset_ne]
          refine Next.mk (j + 1, v5) (by first | omega | (dsimp only; omega)) (by simp (disch := omega) [-hset_if, -Bool.decide_and, hset_ne]) ⟨by omega, fun i hi => ?_, (by first | omega | (dsimp only; omega)), D5, fun i hi => ⟨?_, d5.lt i hi⟩, ?_⟩
          · rw [d3 i (by omega) (fun hd => by have := hE4 i hd; omega), hf4 i (by omega), g2 i hi]
          · rcases d4 i hi with c | c
            · have := hE4 i c; omega
            · omega
          · dsimp only
            rw [ordF, insW, ← t1, ← t2]
            simpa using d5
    · simp (disch := omega) [-hset_if, -Bool.decide_and, hset_ne]
      have f3 : a < (ordF l j).length → B l (at_ (ordF l j) (a : Int)) (j : Int) = false := fun e => by omega
      obtain ⟨t1, t2⟩ := take_while (xs := ordF l j) (p := fun k => B l k (j : Int)) (a := a) (by omega) f2 f3
      refine AW.draw (X := ⟨_, 46, _, _⟩) (id := 8) mixed (.take 1 <| .take 2 <| .take 3 <| .take 5 <| .take 8 <| .take 9 <| .take 10 <| .each 0 [1, 2, 3, 5, 8, 9, 10] (.each 4 [5, 8, 9, 10] (.each 6 [8, 9, 10] (.each 7 [8, 9, 10] (.each 11 [] (.take 12 <| .done) <| .stop) <| .stop) <| .stop) <| .each 6 [1, 2, 3, 8, 9, 10] (.each 4 [8, 9, 10] (.each 7 [8, 9, 10] (.each 11 [] (.take 12 <| .done) <| .stop) <| .stop) <| .stop) <| .stop) <| .each 6 [1, 2, 3, 8, 9, 10] (.each 0 [1, 2, 3, 8, 9, 10] (.each 4 [8, 9, 10] (.each 7 [8, 9, 10] (.each 11 [] (.take 12 <| .done) <| .stop) <| .stop) <| .stop) <| .stop) <| .stop) (by kernel_rfl) ?_
      simp (disch := omega) [-hset_if, -Bool.decide_and, hset_ne]
      refine SlR.head g5.sl tk24 elemS24 (show a ≤ (ordF l j).length by omega) ?_
      intro v1 hv1
      simp (disch := omega) [-hset_if, -Bool.decide_and, hset_ne]
      refine SlR.tail g5.sl tk24 elemS24 (show a ≤ (ordF l j).length by omega) ?_
      intro v4 hv4
      simp (disch := omega) [-hset_if, -Bool.decide_and, hset_ne]
      refine ⟨⟨?_, ?_⟩, ?_⟩
      · have hv1' : SlR ⟨Try.prog, w0⟩ (hset n2 (.cells [] 3 1) H2) E 1 intC v1 ((ordF l j).take a) := hv1.frame (fun i hi => by have := g4 i hi; rw [hset_ne (by omega)])
        refine (OwR.empty (C := ⟨Try.prog, w0⟩) (f := intC) (T := 3) (sz := 1) (n := n2 + 1) (j := n2) (H := hset n2 (.cells [] 3 1) H2) (by omega) (by omega) (hset_same _ _ _)).appendS elemS24 zero3 (by simp) hv1' (fun _ _ => rfl) (by simp; omega) (by simp; omega) ?_
        intro v2 n3 H3 D3 b1 b2 b3 b4 b5
        have b4' : ∀ i, D3 i → i = n2 ∨ i = n2 + 1 := b4
        have hf3 : ∀ i, i < n2 → H3 i = H2 i := fun i hi => by rw [b3 i (by omega) (show ¬ i = n2 by omega), hset_ne (by omega)]
        simp (disch := omega) [-hset_if, -Bool.decide_and, hset_ne]
        refine b5.push elemS24 zero3 (by simp) (j : Int) rfl rfl rfl (by simp; omega) (by simp; omega) ?_
        intro v3 n4 H4 D4 c1 c2 c3 c4 c5
        have hE4 : ∀ i, D4 i → n2 ≤ i := fun i hi => by
          rcases c4 i hi with c | c
          · rcases b4' i c with c | c <;> omega
          · omega
        have hf4 : ∀ i, i < n2 → H4 i = H2 i := fun i hi => by
          rw [c3 i (by omega) (fun hd => by rcases b4' i hd with c | c <;> omega), hf3 i hi]
        simp (disch := omega) [-hset_if, -Bool.decide_and, hset_ne]
        have hv4' : SlR ⟨Try.prog, w0⟩ H4 E 1 intC v4 ((ordF l j).drop a) := hv4.frame (fun i hi => hf4 i (by have := g4 i hi; omega))
        refine c5.appendS elemS24 zero3 (by simp) hv4' (fun _ _ => rfl) (by simp; omega) (by simp; omega) ?_
        intro v5 n5 H5 D5 d1 d2 d3 d4 d5
        simp (disch := omega) [-hset_if, -Bool.decide_and, hset_ne]
        refine Next.mk (j + 1, v5) (by first | omega | (dsimp only; omega)) (by simp (disch := omega) [-hset_if, -Bool.decide_and, hset_ne]) ⟨by omega, fun i hi => ?_, (by first | omega | (dsimp only; omega)), D5, fun i hi => ⟨?_, d5.lt i hi⟩, ?_⟩
        · rw [d3 i (by omega) (fun hd => by have := hE4 i hd; omega), hf4 i (by omega), g2 i hi]
        · rcases d4 i hi with c | c
          · have := hE4 i c; omega
          · omega
        · dsimp only
          rw [ordF, insW, ← t1, ← t2]
          simpa using d5
      · have hv1' : SlR ⟨Try.prog, w0⟩ (hset (n2 + 1) (.cells [.int .i64 j] 3 1) (hset n2 (.cells [] 3 1) H2)) E 1 intC v1 ((ordF l j).take a) := hv1.frame (fun i hi => by have := g4 i hi; rw [hset_ne (by omega), hset_ne (by omega)])
        refine (OwR.empty (C := ⟨Try.prog, w0⟩) (f := intC) (T := 3) (sz := 1) (n := n2 + 1 + 1) (j := n2) (H := hset (n2 + 1) (.cells [.int .i64 j] 3 1) (hset n2 (.cells [] 3 1) H2)) (by omega) (by omega) ((by rw [hset_ne (by omega), hset_same]))).appendS elemS24 zero3 (by simp) hv1' (fun _ _ => rfl) (by simp; omega) (by simp; omega) ?_
        intro v2 n3 H3 D3 b1 b2 b3 b4 b5
        have b4' : ∀ i, D3 i → i = n2 ∨ i = n2 + 1 + 1 := b4
        have hf3 : ∀ i, i < n2 → H3 i = H2 i := fun i hi => by rw [b3 i (by omega) (show ¬ i = n2 by omega), hset_ne (by omega), hset_ne (by omega)]
        simp (disch := omega) [-hset_if, -Bool.decide_and, hset_ne]
        have q3 : SlR ⟨Try.prog, w0⟩ H3 (· = n2 + 1) 1 intC (.slice (some ⟨new (n2 + 1), 0, none⟩) 1 1) [(j : Int)] := (OwR.lit (n := n3) (T := 3) (j := n2 + 1) (by omega) (by simp) (by omega) (by rw [b3 _ (by omega) (show ¬ n2 + 1 = n2 by omega), hset_same]; rfl) rfl (by simp)).sl
        refine b5.appendS elemS24 zero3 (by simp) q3 (fun _ _ => rfl) (by simp; omega) (by simp; omega) ?_
        intro v3 n4 H4 D4 c1 c2 c3 c4 c5
        have hE4 : ∀ i, D4 i → n2 ≤ i := fun i hi => by
          rcases c4 i hi with c | c
          · rcases b4' i c with c | c <;> omega
          · omega
        have hf4 : ∀ i, i < n2 → H4 i = H2 i := fun i hi => by
          rw [c3 i (by omega) (fun hd => by rcases b4' i hd with c | c <;> omega), hf3 i hi]
        simp (disch := omega) [-hset_if, -Bool.decide_and, hset_ne]
        have hv4' : SlR ⟨Try.prog, w0⟩ H4 E 1 intC v4 ((ordF l j).drop a) := hv4.frame (fun i hi => hf4 i (by have := g4 i hi; omega))
        refine c5.appendS elemS24 zero3 (by simp) hv4' (fun _ _ => rfl) (by simp; omega) (by simp; omega) ?_
        intro v5 n5 H5 D5 d1 d2 d3 d4 d5
        simp (disch := omega) [-hset_if, -Bool.decide_and, hset_ne]
        refine Next.mk (j + 1, v5) (by first | omega | (dsimp only; omega)) (by simp (disch := omega) [-hset_if, -Bool.decide_and, hset_ne]) ⟨by omega, fun i hi => ?_, (by first | omega | (dsimp only; omega)), D5, fun i hi => ⟨?_, d5.lt i hi⟩, ?_⟩
        · rw [d3 i (by omega) (fun hd => by have := hE4 i hd; omega), hf4 i (by omega), g2 i hi]
        · rcases d4 i hi with c | c
          · have := hE4 i c; omega
          · omega
        · dsimp only
          rw [ordF, insW, ← t1, ← t2]
          simpa using d5
      · have hv1' : SlR ⟨Try.prog, w0⟩ (hset (n2 + 1) (.cells [] 3 1) (hset n2 (.cells [.int .i64 j] 3 1) H2)) E 1 intC v1 ((ordF l j).take a) := hv1.frame (fun i hi => by have := g4 i hi; rw [hset_ne (by omega), hset_ne (by omega)])
        refine (OwR.empty (C := ⟨Try.prog, w0⟩) (f := intC) (T := 3) (sz := 1) (n := n2 + 1 + 1) (j := n2 + 1) (H := hset (n2 + 1) (.cells [] 3 1) (hset n2 (.cells [.int .i64 j] 3 1) H2)) (by omega) (by omega) (hset_same _ _ _)).appendS elemS24 zero3 (by simp) hv1' (fun _ _ => rfl) (by simp; omega) (by simp; omega) ?_
        intro v2 n3 H3 D3 b1 b2 b3 b4 b5
        have b4' : ∀ i, D3 i → i = n2 + 1 ∨ i = n2 + 1 + 1 := b4
        have hf3 : ∀ i, i < n2 → H3 i = H2 i := fun i hi => by rw [b3 i (by omega) (show ¬ i = n2 + 1 by omega), hset_ne (by omega), hset_ne (by omega)]
        simp (disch := omega) [-hset_if, -Bool.decide_and, hset_ne]
        have q3 : SlR ⟨Try.prog, w0⟩ H3 (· = n2) 1 intC (.slice (some ⟨new (n2), 0, none⟩) 1 1) [(j : Int)] := (OwR.lit (n := n3) (T := 3) (j := n2) (by omega) (by simp) (by omega) (by rw [b3 _ (by omega) (show ¬ n2 = n2 + 1 by omega), hset_ne (by omega), hset_same]; rfl) rfl (by simp)).sl
        refine b5.appendS elemS24 zero3 (by simp) q3 (fun _ _ => rfl) (by simp; omega) (by simp; omega) ?_
        intro v3 n4 H4 D4 c1 c2 c3 c4 c5
        have hE4 : ∀ i, D4 i → n2 ≤ i := fun i hi => by
          rcases c4 i hi with c | c
          · rcases b4' i c with c | c <;> omega
          · omega
        have hf4 : ∀ i, i < n2 → H4 i = H2 i := fun i hi => by
          rw [c3 i (by omega) (fun hd => by rcases b4' i hd with c | c <;> omega), hf3 i hi]
        simp (disch := omega) [-hset_if, -Bool.decide_and, hset_ne]
        have hv4' : SlR ⟨Try.prog, w0⟩ H4 E 1 intC v4 ((ordF l j).drop a) := hv4.frame (fun i hi => hf4 i (by have := g4 i hi; omega))
        refine c5.appendS elemS24 zero3 (by simp) hv4' (fun _ _ => rfl) (by simp; omega) (by simp; omega) ?_
        intro v5 n5 H5 D5 d1 d2 d3 d4 d5
        simp (disch := omega) [-hset_if, -Bool.decide_and, hset_ne]
        refine Next.mk (j + 1, v5) (by first | omega | (dsimp only; omega)) (by simp (disch := omega) [-hset_if, -Bool.decide_and, hset_ne]) ⟨by omega, fun i hi => ?_, (by first | omega | (dsimp only; omega)), D5, fun i hi => ⟨?_, d5.lt i hi⟩, ?_⟩
        · rw [d3 i (by omega) (fun hd => by have := hE4 i hd; omega), hf4 i (by omega), g2 i hi]
        · rcases d4 i hi with c | c
          · have := hE4 i c; omega
          · omega
        · dsimp only
          rw [ordF, insW, ← t1, ← t2]
          simpa using d5
  · have hjl : j = l.length := by omega
    subst hjl
    simp (disch := omega) [-hset_if, -Bool.decide_and, hset_ne]
    refine Fin_id ?_
    exact hk _ _ _ E g1 g2 g4 g5
end Go.Aw.S56
