/-
  Chapter 15: awake.
-/
import Derived.Test.YtmgadjflgiokeaaS15m
namespace Go.Aw.S15
open Go.RowKit Go.Proofs Go.Aw.Tab
set_option linter.unusedSimpArgs false
set_option linter.unusedVariables false
set_option maxRecDepth 10000
set_option maxHeartbeats 1000000
set_option pp.deepTerms false
set_option pp.deepTerms.threshold 4
set_option pp.maxSteps 1500
attribute [local simp] Req.cells range_get
variable {w0 : World} {n : Nat} {H : Heap} {K : Value → Nat → Heap → Prop} {s : ByteArray}
/-- The heap of awake: the group at b, the state at b + 1. -/
structure ASt (w0 : World) (n : Nat) (H : Heap) (b : Nat) (v : Value) (E : Nat → Prop) (n' : Nat) (H' : Heap) : Prop where
  le : n ≤ b
  le' : b + 2 ≤ n'
  fr : ∀ i, i < n → H' i = H i
  gp : H' b = .cells [.string ⟨#[102, 97, 110, 115]⟩, v, .int .i64 10] 24 1
  st : H' (b + 1) = .cells [.int .i64 (-1), .int .i64 95] 29 1
  lt : ∀ i, E i → i < b
  ow : SlR ⟨Try.prog, w0⟩ H' E 1 strC v fansP
theorem ASt.frame {b : Nat} {v : Value} {E : Nat → Prop} {n1 n2 : Nat} {H1 H2 : Heap} (h : ASt w0 n H b v E n1 H1) (h1 : n1 ≤ n2) (h2 : ∀ i, i < n1 → H2 i = H1 i) : ASt w0 n H b v E n2 H2 := by
  have h3 := h.le
  have h4 := h.le'
  exact ⟨h3, by omega, fun i hi => by rw [h2 _ (by omega)]; exact h.fr i hi, by rw [h2 _ (by omega)]; exact h.gp, by rw [h2 _ (by omega)]; exact h.st, h.lt, h.ow.frame (fun i hi => h2 i (by have := h.lt i hi; omega))⟩
def R1 (b : Nat) : Fr := [(1, .pointer (some ⟨new b, 0, none⟩)), (2, .pointer (some ⟨new (b + 1), 0, none⟩)), (3, .int .i64 1), (4, .int .i64 0)]
def R2 (b : Nat) : Fr := [(1, .pointer (some ⟨new b, 0, none⟩)), (2, .pointer (some ⟨new (b + 1), 0, none⟩)), (3, .int .i64 1), (4, .int .i64 0), (5, .int .i64 1), (6, .int .i64 105), (7, .int .i64 0)]
def R3 (b a c : Nat) : Fr := (12, .int .i64 2) :: (13, .int .i64 0) :: (10, .pointer (some ⟨new c, 0, none⟩)) :: (11, .int .i64 0) :: (8, .pointer (some ⟨new a, 0, none⟩)) :: (9, .int .i64 0) :: R2 b
attribute [local simp] R1 R2 R3
theorem awake_ok (hk : ∀ n' H', n ≤ n' → (∀ i, i < n → H' i = H i) → K (.bool true) n' H') : ACall ⟨Try.prog, w0⟩ 10 [] K n H := by
  refine ACall.code Try.func10 rfl Try.ntmps10 Try.results10 (by simp) fun J0 => ?_
  refine AW.step ?_
  simp (disch := omega) [-hset_if, -Bool.decide_and, hset_ne]
  refine AW.step ?_
  simp (disch := omega) [-hset_if, -Bool.decide_and, hset_ne]
  refine fans_ok ?_
  intro n1 H1 v E a1 a2 a3 a4
  have hvc := a4.sl.cells
  simp (disch := omega) [-hset_if, -Bool.decide_and, hset_ne, hvc, a4.sl.one]
  refine AW.cut (σ := Unit) (fun _ => [(1, .pointer (some ⟨new n1, 0, none⟩)), (2, .pointer (some ⟨new (n1 + 1), 0, none⟩))]) (fun _ n' H' => ASt w0 n H n1 v E n' H') ?_ ?_
  rotate_left
  · simp (disch := omega) [-hset_if, -Bool.decide_and, hset_ne, hvc, a4.sl.one]
    refine Join.mk () ⟨rfl, rfl, trivial⟩ ?_
    exact ⟨by omega, by omega, fun i hi => by simp (disch := omega) [-hset_if, -Bool.decide_and, hset_ne, a2], by simp (disch := omega) [-hset_if, -Bool.decide_and, hset_ne], by simp (disch := omega) [-hset_if, -Bool.decide_and, hset_ne], a4.lt, a4.sl.frame (fun i hi => by have := a4.lt i hi; simp (disch := omega) [-hset_if, -Bool.decide_and, hset_ne])⟩
  clear a4 a3 a2 a1
  intro _ n2 H2 L
  have hle := L.le
  have hle' := L.le'
  refine AW.cut (σ := Unit) (fun _ => [(1, .pointer (some ⟨new n1, 0, none⟩)), (2, .pointer (some ⟨new (n1 + 1), 0, none⟩)), (3, .int .i64 1), (4, .int .i64 0)]) (fun _ n' H' => ASt w0 n H n1 v E n' H') ?_ ?_
  rotate_left
  · refine AW.draw (X := ⟨_, 123, _, _⟩) (id := 3) mixed (.take 0 <| .take 1 <| .each 2 [0, 1] (.each 3 [0, 1] (.each 4 [] (.take 5 <| .take 6 <| .take 7 <| .take 8 <| .take 9 <| .done) <| .stop) <| .stop) <| .stop) (by kernel_rfl) ?_
    simp (disch := omega) [-hset_if, -Bool.decide_and, hset_ne, L.gp, L.st]
    refine ask_ok (ls := [0, 16, 0]) (D := (· = n2)) (OwR.lit (C := ⟨Try.prog, w0⟩) (n := n2 + 1) (j := n2) (sz := 1) (T := 3) (f := intC) (xs := [0, 16, 0]) (l := 3) (by omega) (by simp [intC]) (by omega) (hset_same _ _ _) rfl rfl).sl (fun i hi => by omega) (by simp) ?_
    intro n3 H3 av F x1 x2 x3 x4
    have L3 := L.frame (n2 := n3) (H2 := H3) (by omega) (fun i hi => by rw [x2 i (by omega)]; simp (disch := omega) [-hset_if, -Bool.decide_and, hset_ne])
    have hle3 := L3.le'
    simp (disch := omega) [-hset_if, -Bool.decide_and, hset_ne, x4.sl.cells, x4.sl.one, L3.gp, L3.st, hvc]
    refine Winner_ok (ps := fansP) (rs := [0, 16, 0].map askR) (dead := 10) (on := -1) (left := 95) L3.ow x4.sl (fun i hi => x4.lt i hi) (fun i hi => by have := L3.lt i hi; have := L3.le'; omega) (by simp) ?_
    intro n4 H4 y1 y2
    have L4 := L3.frame y1 y2
    rw [show winnerR fansP.length 10 (-1) 95 ([0, 16, 0].map askR) = .tuple #[.int .i64 1, .int .i64 0] from by kernel_rfl]
    simp (disch := omega) [-hset_if, -Bool.decide_and, hset_ne]
    exact Join.mk () ⟨rfl, rfl, rfl, rfl, trivial⟩ L4
  clear L
  intro _ n2 H2 L
  have hle := L.le
  have hle' := L.le'
  refine AW.cut (σ := Unit) (fun _ => R2 n1) (fun _ n' H' => ASt w0 n H n1 v E n' H') ?_ ?_
  rotate_left
  · refine AW.draw (X := ⟨_, 123, _, _⟩) (id := 4) mixed (.take 0 <| .take 1 <| .each 2 [0, 1] (.each 3 [0, 1] (.each 4 [] (.take 5 <| .take 6 <| .take 7 <| .take 8 <| .take 9 <| .take 10 <| .take 11 <| .done) <| .stop) <| .stop) <| .stop) (by kernel_rfl) ?_
    simp (disch := omega) [-hset_if, -Bool.decide_and, hset_ne, L.gp, L.st]
    refine ask_ok (ls := [0, 16, 0]) (D := (· = n2)) (OwR.lit (C := ⟨Try.prog, w0⟩) (n := n2 + 1) (j := n2) (sz := 1) (T := 3) (f := intC) (xs := [0, 16, 0]) (l := 3) (by omega) (by simp [intC]) (by omega) (hset_same _ _ _) rfl rfl).sl (fun i hi => by omega) (by simp) ?_
    intro n3 H3 av F x1 x2 x3 x4
    have L3 := L.frame (n2 := n3) (H2 := H3) (by omega) (fun i hi => by rw [x2 i (by omega)]; simp (disch := omega) [-hset_if, -Bool.decide_and, hset_ne])
    have hle3 := L3.le'
    simp (disch := omega) [-hset_if, -Bool.decide_and, hset_ne, x4.sl.cells, x4.sl.one, L3.gp, L3.st, hvc]
    refine Waiting_ok (ps := fansP) (rs := [0, 16, 0].map askR) (dead := 10) (on := -1) (left := 95) (now := 100) L3.ow x4.sl (fun i hi => x4.lt i hi) (fun i hi => by have := L3.lt i hi; have := L3.le'; omega) (by simp) ?_
    intro n4 H4 y1 y2
    have L4 := L3.frame y1 y2
    rw [show waitR fansP.length 10 (-1) 95 ([0, 16, 0].map askR) 100 = .tuple #[.int .i64 1, .int .i64 105, .int .i64 0] from by kernel_rfl]
    simp (disch := omega) [-hset_if, -Bool.decide_and, hset_ne]
    exact Join.mk () ⟨rfl, rfl, rfl, rfl, rfl, rfl, rfl, trivial⟩ L4
  clear L
  intro _ n2 H2 L
  have hle := L.le
  have hle' := L.le'
  refine AW.cut (σ := Nat) (fun a => (8, .pointer (some ⟨new a, 0, none⟩)) :: (9, .int .i64 0) :: R2 n1) (fun a n' H' => ASt w0 n H n1 v E n' H' ∧ H' a = .cells [.int .i64 1, .int .i64 95] 29 1 ∧ a < n') ?_ ?_
  rotate_left
  · refine AW.draw (X := ⟨_, 123, _, _⟩) (id := 5) mixed (.take 0 <| .take 1 <| .each 2 [0, 1] (.each 3 [0, 1] (.each 4 [] (.take 5 <| .take 6 <| .take 7 <| .each 8 [5, 6, 7] (.each 9 [7] (.take 10 <| .done) <| .stop) <| .stop) <| .each 8 [0, 1] (.each 4 [] (.take 5 <| .take 6 <| .take 7 <| .each 9 [7] (.take 10 <| .done) <| .stop) <| .stop) <| .stop) <| .each 8 [0, 1] (.each 3 [0, 1] (.each 4 [] (.take 5 <| .take 6 <| .take 7 <| .each 9 [7] (.take 10 <| .done) <| .stop) <| .stop) <| .stop) <| .stop) <| .each 8 [0, 1] (.each 2 [0, 1] (.each 3 [0, 1] (.each 4 [] (.take 5 <| .take 6 <| .take 7 <| .each 9 [7] (.take 10 <| .done) <| .stop) <| .stop) <| .stop) <| .stop) <| .stop) (by kernel_rfl) ?_
    simp (disch := omega) [-hset_if, -Bool.decide_and, hset_ne, L.gp, L.st]
    refine And.intro (And.intro ?_ ?_) ?_
    · refine ask_ok (ls := [0, 16, 0]) (D := (· = n2)) (OwR.lit (C := ⟨Try.prog, w0⟩) (n := (n2 + 1)) (j := n2) (sz := 1) (T := 3) (f := intC) (xs := [0, 16, 0]) (l := 3) (by omega) (by simp [intC]) (by omega) (by simp (disch := omega) [-hset_if, -Bool.decide_and, hset_ne]; rfl) rfl rfl).sl (fun i hi => by omega) (by simp) ?_
      intro n3 H3 av F x1 x2 x3 x4
      have L3 := L.frame (n2 := n3) (H2 := H3) (by omega) (fun i hi => by rw [x2 i (by omega)]; simp (disch := omega) [-hset_if, -Bool.decide_and, hset_ne])
      have hle3 := L3.le'
      simp (disch := omega) [-hset_if, -Bool.decide_and, hset_ne, x4.sl.cells, x4.sl.one, L3.gp, L3.st, hvc]
      refine And.intro ?_ ?_
      · refine Step_ok (ps := fansP) (rs := [0, 16, 0].map askR) (dead := 10) (on := (-1)) (left := 95) (now := 105) L3.ow x4.sl (fun i hi => by have := x4.lt i hi; omega) (fun i hi => by have := L3.lt i hi; have := L3.le'; omega) (by simp) ?_
        intro n4 H4 y1 y2
        rw [show stepR fansP.length 10 (-1) 95 ([0, 16, 0].map askR) 105 = .tuple #[.agg #[.int .i64 1, .int .i64 95], .int .i64 0] from by kernel_rfl]
        simp (disch := omega) [-hset_if, -Bool.decide_and, hset_ne, y2]
        refine Join.mk n4 (by simp (disch := omega) [-hset_if, -Bool.decide_and, hset_ne]) ⟨L.frame (by omega) (fun i hi => ?_), by simp (disch := omega) [-hset_if, -Bool.decide_and, hset_ne], by omega⟩
        simp (disch := omega) [-hset_if, -Bool.decide_and, hset_ne, y2, x2]
      · have L3 := L3.frame (n2 := n3 + 1) (H2 := hset n3 (.cells [.int .i64 0, .int .i64 0] 29 1) H3) (by omega) (fun i hi => by simp (disch := omega) [-hset_if, -Bool.decide_and, hset_ne])
        refine Step_ok (ps := fansP) (rs := [0, 16, 0].map askR) (dead := 10) (on := (-1)) (left := 95) (now := 105) L3.ow (x4.frame (m := n3 + 1) (by omega) (fun i hi => by have := x4.lt i hi; simp (disch := omega) [-hset_if, -Bool.decide_and, hset_ne])).sl (fun i hi => by have := x4.lt i hi; omega) (fun i hi => by have := L3.lt i hi; have := L3.le'; omega) (by simp) ?_
        intro n4 H4 y1 y2
        rw [show stepR fansP.length 10 (-1) 95 ([0, 16, 0].map askR) 105 = .tuple #[.agg #[.int .i64 1, .int .i64 95], .int .i64 0] from by kernel_rfl]
        simp (disch := omega) [-hset_if, -Bool.decide_and, hset_ne, y2]
        refine Join.mk n3 (by simp (disch := omega) [-hset_if, -Bool.decide_and, hset_ne]) ⟨L.frame (by omega) (fun i hi => ?_), by simp (disch := omega) [-hset_if, -Bool.decide_and, hset_ne], by omega⟩
        simp (disch := omega) [-hset_if, -Bool.decide_and, hset_ne, y2, x2]
    · refine ask_ok (ls := [0, 16, 0]) (D := (· = n2)) (OwR.lit (C := ⟨Try.prog, w0⟩) (n := (n2 + 2)) (j := n2) (sz := 1) (T := 3) (f := intC) (xs := [0, 16, 0]) (l := 3) (by omega) (by simp [intC]) (by omega) (by simp (disch := omega) [-hset_if, -Bool.decide_and, hset_ne]; rfl) rfl rfl).sl (fun i hi => by omega) (by simp) ?_
      intro n3 H3 av F x1 x2 x3 x4
      have L3 := L.frame (n2 := n3) (H2 := H3) (by omega) (fun i hi => by rw [x2 i (by omega)]; simp (disch := omega) [-hset_if, -Bool.decide_and, hset_ne])
      have hle3 := L3.le'
      simp (disch := omega) [-hset_if, -Bool.decide_and, hset_ne, x4.sl.cells, x4.sl.one, L3.gp, L3.st, hvc]
      refine Step_ok (ps := fansP) (rs := [0, 16, 0].map askR) (dead := 10) (on := (-1)) (left := 95) (now := 105) L3.ow x4.sl (fun i hi => by have := x4.lt i hi; omega) (fun i hi => by have := L3.lt i hi; have := L3.le'; omega) (by simp) ?_
      intro n4 H4 y1 y2
      rw [show stepR fansP.length 10 (-1) 95 ([0, 16, 0].map askR) 105 = .tuple #[.agg #[.int .i64 1, .int .i64 95], .int .i64 0] from by kernel_rfl]
      simp (disch := omega) [-hset_if, -Bool.decide_and, hset_ne, y2, x2]
      refine Join.mk (n2 + 1) (by simp (disch := omega) [-hset_if, -Bool.decide_and, hset_ne]) ⟨L.frame (by omega) (fun i hi => ?_), by simp (disch := omega) [-hset_if, -Bool.decide_and, hset_ne], by omega⟩
      simp (disch := omega) [-hset_if, -Bool.decide_and, hset_ne, y2, x2]
    · refine ask_ok (ls := [0, 16, 0]) (D := (· = (n2 + 1))) (OwR.lit (C := ⟨Try.prog, w0⟩) (n := (n2 + 2)) (j := (n2 + 1)) (sz := 1) (T := 3) (f := intC) (xs := [0, 16, 0]) (l := 3) (by omega) (by simp [intC]) (by omega) (by simp (disch := omega) [-hset_if, -Bool.decide_and, hset_ne]; rfl) rfl rfl).sl (fun i hi => by omega) (by simp) ?_
      intro n3 H3 av F x1 x2 x3 x4
      have L3 := L.frame (n2 := n3) (H2 := H3) (by omega) (fun i hi => by rw [x2 i (by omega)]; simp (disch := omega) [-hset_if, -Bool.decide_and, hset_ne])
      have hle3 := L3.le'
      simp (disch := omega) [-hset_if, -Bool.decide_and, hset_ne, x4.sl.cells, x4.sl.one, L3.gp, L3.st, hvc]
      refine Step_ok (ps := fansP) (rs := [0, 16, 0].map askR) (dead := 10) (on := (-1)) (left := 95) (now := 105) L3.ow x4.sl (fun i hi => by have := x4.lt i hi; omega) (fun i hi => by have := L3.lt i hi; have := L3.le'; omega) (by simp) ?_
      intro n4 H4 y1 y2
      rw [show stepR fansP.length 10 (-1) 95 ([0, 16, 0].map askR) 105 = .tuple #[.agg #[.int .i64 1, .int .i64 95], .int .i64 0] from by kernel_rfl]
      simp (disch := omega) [-hset_if, -Bool.decide_and, hset_ne, y2, x2]
      refine Join.mk n2 (by simp (disch := omega) [-hset_if, -Bool.decide_and, hset_ne]) ⟨L.frame (by omega) (fun i hi => ?_), by simp (disch := omega) [-hset_if, -Bool.decide_and, hset_ne], by omega⟩
      simp (disch := omega) [-hset_if, -Bool.decide_and, hset_ne, y2, x2]
  clear L
  rintro a n2 H2 ⟨L, hA, hA'⟩
  have hle := L.le
  have hle' := L.le'
  refine AW.cut (σ := Nat × Nat) (fun p => (10, .pointer (some ⟨new p.2, 0, none⟩)) :: (11, .int .i64 0) :: (8, .pointer (some ⟨new p.1, 0, none⟩)) :: (9, .int .i64 0) :: R2 n1) (fun p n' H' => ASt w0 n H n1 v E n' H' ∧ H' p.1 = .cells [.int .i64 1, .int .i64 95] 29 1 ∧ p.1 < n' ∧ H' p.2 = .cells [.int .i64 (-1), .int .i64 106] 29 1 ∧ p.2 < n') ?_ ?_
  rotate_left
  · refine AW.draw (X := ⟨_, 123, _, _⟩) (id := 6) mixed (.take 0 <| .take 1 <| .each 2 [0, 1] (.each 3 [0, 1] (.each 4 [] (.take 5 <| .take 6 <| .take 7 <| .each 8 [5, 6, 7] (.each 9 [7] (.take 10 <| .done) <| .stop) <| .stop) <| .each 8 [0, 1] (.each 4 [] (.take 5 <| .take 6 <| .take 7 <| .each 9 [7] (.take 10 <| .done) <| .stop) <| .stop) <| .stop) <| .each 8 [0, 1] (.each 3 [0, 1] (.each 4 [] (.take 5 <| .take 6 <| .take 7 <| .each 9 [7] (.take 10 <| .done) <| .stop) <| .stop) <| .stop) <| .stop) <| .each 8 [0, 1] (.each 2 [0, 1] (.each 3 [0, 1] (.each 4 [] (.take 5 <| .take 6 <| .take 7 <| .each 9 [7] (.take 10 <| .done) <| .stop) <| .stop) <| .stop) <| .stop) <| .stop) (by kernel_rfl) ?_
    simp (disch := omega) [-hset_if, -Bool.decide_and, hset_ne, L.gp, hA]
    refine And.intro (And.intro ?_ ?_) ?_
    · refine ask_ok (ls := [2, 16, 0]) (D := (· = n2)) (OwR.lit (C := ⟨Try.prog, w0⟩) (n := (n2 + 1)) (j := n2) (sz := 1) (T := 3) (f := intC) (xs := [2, 16, 0]) (l := 3) (by omega) (by simp [intC]) (by omega) (by simp (disch := omega) [-hset_if, -Bool.decide_and, hset_ne]; rfl) rfl rfl).sl (fun i hi => by omega) (by simp) ?_
      intro n3 H3 av F x1 x2 x3 x4
      have L3 := L.frame (n2 := n3) (H2 := H3) (by omega) (fun i hi => by rw [x2 i (by omega)]; simp (disch := omega) [-hset_if, -Bool.decide_and, hset_ne])
      have hle3 := L3.le'
      simp (disch := omega) [-hset_if, -Bool.decide_and, hset_ne, x4.sl.cells, x4.sl.one, L3.gp, L3.st, hvc, x2, L.gp, hA]
      refine And.intro ?_ ?_
      · refine Step_ok (ps := fansP) (rs := [2, 16, 0].map askR) (dead := 10) (on := 1) (left := 95) (now := 106) L3.ow x4.sl (fun i hi => by have := x4.lt i hi; omega) (fun i hi => by have := L3.lt i hi; have := L3.le'; omega) (by simp) ?_
        intro n4 H4 y1 y2
        rw [show stepR fansP.length 10 1 95 ([2, 16, 0].map askR) 106 = .tuple #[.agg #[.int .i64 (-1), .int .i64 106], .int .i64 0] from by kernel_rfl]
        simp (disch := omega) [-hset_if, -Bool.decide_and, hset_ne, y2]
        refine Join.mk (a, n4) (by simp (disch := omega) [-hset_if, -Bool.decide_and, hset_ne]) ⟨L.frame (by omega) (fun i hi => ?_), by simp (disch := omega) [-hset_if, -Bool.decide_and, hset_ne, y2, x2, hA], by omega, by simp (disch := omega) [-hset_if, -Bool.decide_and, hset_ne], by omega⟩
        simp (disch := omega) [-hset_if, -Bool.decide_and, hset_ne, y2, x2]
      · have L3 := L3.frame (n2 := n3 + 1) (H2 := hset n3 (.cells [.int .i64 0, .int .i64 0] 29 1) H3) (by omega) (fun i hi => by simp (disch := omega) [-hset_if, -Bool.decide_and, hset_ne])
        refine Step_ok (ps := fansP) (rs := [2, 16, 0].map askR) (dead := 10) (on := 1) (left := 95) (now := 106) L3.ow (x4.frame (m := n3 + 1) (by omega) (fun i hi => by have := x4.lt i hi; simp (disch := omega) [-hset_if, -Bool.decide_and, hset_ne])).sl (fun i hi => by have := x4.lt i hi; omega) (fun i hi => by have := L3.lt i hi; have := L3.le'; omega) (by simp) ?_
        intro n4 H4 y1 y2
        rw [show stepR fansP.length 10 1 95 ([2, 16, 0].map askR) 106 = .tuple #[.agg #[.int .i64 (-1), .int .i64 106], .int .i64 0] from by kernel_rfl]
        simp (disch := omega) [-hset_if, -Bool.decide_and, hset_ne, y2]
        refine Join.mk (a, n3) (by simp (disch := omega) [-hset_if, -Bool.decide_and, hset_ne]) ⟨L.frame (by omega) (fun i hi => ?_), by simp (disch := omega) [-hset_if, -Bool.decide_and, hset_ne, y2, x2, hA], by omega, by simp (disch := omega) [-hset_if, -Bool.decide_and, hset_ne], by omega⟩
        simp (disch := omega) [-hset_if, -Bool.decide_and, hset_ne, y2, x2]
    · refine ask_ok (ls := [2, 16, 0]) (D := (· = n2)) (OwR.lit (C := ⟨Try.prog, w0⟩) (n := (n2 + 2)) (j := n2) (sz := 1) (T := 3) (f := intC) (xs := [2, 16, 0]) (l := 3) (by omega) (by simp [intC]) (by omega) (by simp (disch := omega) [-hset_if, -Bool.decide_and, hset_ne]; rfl) rfl rfl).sl (fun i hi => by omega) (by simp) ?_
      intro n3 H3 av F x1 x2 x3 x4
      have L3 := L.frame (n2 := n3) (H2 := H3) (by omega) (fun i hi => by rw [x2 i (by omega)]; simp (disch := omega) [-hset_if, -Bool.decide_and, hset_ne])
      have hle3 := L3.le'
      simp (disch := omega) [-hset_if, -Bool.decide_and, hset_ne, x4.sl.cells, x4.sl.one, L3.gp, L3.st, hvc, x2, L.gp, hA]
      refine Step_ok (ps := fansP) (rs := [2, 16, 0].map askR) (dead := 10) (on := 1) (left := 95) (now := 106) L3.ow x4.sl (fun i hi => by have := x4.lt i hi; omega) (fun i hi => by have := L3.lt i hi; have := L3.le'; omega) (by simp) ?_
      intro n4 H4 y1 y2
      rw [show stepR fansP.length 10 1 95 ([2, 16, 0].map askR) 106 = .tuple #[.agg #[.int .i64 (-1), .int .i64 106], .int .i64 0] from by kernel_rfl]
      simp (disch := omega) [-hset_if, -Bool.decide_and, hset_ne, y2, x2]
      refine Join.mk (a, n2 + 1) (by simp (disch := omega) [-hset_if, -Bool.decide_and, hset_ne]) ⟨L.frame (by omega) (fun i hi => ?_), by simp (disch := omega) [-hset_if, -Bool.decide_and, hset_ne, y2, x2, hA], by omega, by simp (disch := omega) [-hset_if, -Bool.decide_and, hset_ne], by omega⟩
      simp (disch := omega) [-hset_if, -Bool.decide_and, hset_ne, y2, x2]
    · refine ask_ok (ls := [2, 16, 0]) (D := (· = (n2 + 1))) (OwR.lit (C := ⟨Try.prog, w0⟩) (n := (n2 + 2)) (j := (n2 + 1)) (sz := 1) (T := 3) (f := intC) (xs := [2, 16, 0]) (l := 3) (by omega) (by simp [intC]) (by omega) (by simp (disch := omega) [-hset_if, -Bool.decide_and, hset_ne]; rfl) rfl rfl).sl (fun i hi => by omega) (by simp) ?_
      intro n3 H3 av F x1 x2 x3 x4
      have L3 := L.frame (n2 := n3) (H2 := H3) (by omega) (fun i hi => by rw [x2 i (by omega)]; simp (disch := omega) [-hset_if, -Bool.decide_and, hset_ne])
      have hle3 := L3.le'
      simp (disch := omega) [-hset_if, -Bool.decide_and, hset_ne, x4.sl.cells, x4.sl.one, L3.gp, L3.st, hvc, x2, L.gp, hA]
      refine Step_ok (ps := fansP) (rs := [2, 16, 0].map askR) (dead := 10) (on := 1) (left := 95) (now := 106) L3.ow x4.sl (fun i hi => by have := x4.lt i hi; omega) (fun i hi => by have := L3.lt i hi; have := L3.le'; omega) (by simp) ?_
      intro n4 H4 y1 y2
      rw [show stepR fansP.length 10 1 95 ([2, 16, 0].map askR) 106 = .tuple #[.agg #[.int .i64 (-1), .int .i64 106], .int .i64 0] from by kernel_rfl]
      simp (disch := omega) [-hset_if, -Bool.decide_and, hset_ne, y2, x2]
      refine Join.mk (a, n2) (by simp (disch := omega) [-hset_if, -Bool.decide_and, hset_ne]) ⟨L.frame (by omega) (fun i hi => ?_), by simp (disch := omega) [-hset_if, -Bool.decide_and, hset_ne, y2, x2, hA], by omega, by simp (disch := omega) [-hset_if, -Bool.decide_and, hset_ne], by omega⟩
      simp (disch := omega) [-hset_if, -Bool.decide_and, hset_ne, y2, x2]
  clear L hA hA'
  rintro ⟨a, c⟩ n2 H2 ⟨L, hA, hA', hB, hB'⟩
  dsimp only at hA hA' hB hB'
  have hle := L.le
  have hle' := L.le'
  refine AW.cut (σ := Unit) (fun _ => R3 n1 a c) (fun _ n' H' => ASt w0 n H n1 v E n' H' ∧ H' a = .cells [.int .i64 1, .int .i64 95] 29 1 ∧ a < n' ∧ H' c = .cells [.int .i64 (-1), .int .i64 106] 29 1 ∧ c < n') ?_ ?_
  rotate_left
  · refine AW.draw (X := ⟨_, 123, _, _⟩) (id := 7) mixed (.take 0 <| .take 1 <| .each 2 [0, 1] (.each 3 [0, 1] (.each 4 [] (.take 5 <| .take 6 <| .take 7 <| .take 8 <| .take 9 <| .done) <| .stop) <| .stop) <| .stop) (by kernel_rfl) ?_
    simp (disch := omega) [-hset_if, -Bool.decide_and, hset_ne, L.gp, hA]
    refine ask_ok (ls := [0, 18, 17]) (D := (· = n2)) (OwR.lit (C := ⟨Try.prog, w0⟩) (n := (n2 + 1)) (j := n2) (sz := 1) (T := 3) (f := intC) (xs := [0, 18, 17]) (l := 3) (by omega) (by simp [intC]) (by omega) (by simp (disch := omega) [-hset_if, -Bool.decide_and, hset_ne]; rfl) rfl rfl).sl (fun i hi => by omega) (by simp) ?_
    intro n3 H3 av F x1 x2 x3 x4
    have L3 := L.frame (n2 := n3) (H2 := H3) (by omega) (fun i hi => by rw [x2 i (by omega)]; simp (disch := omega) [-hset_if, -Bool.decide_and, hset_ne])
    have hle3 := L3.le'
    simp (disch := omega) [-hset_if, -Bool.decide_and, hset_ne, x4.sl.cells, x4.sl.one, L3.gp, L3.st, hvc, x2, L.gp, hA]
    refine Winner_ok (ps := fansP) (rs := [0, 18, 17].map askR) (dead := 10) (on := 1) (left := 95) L3.ow x4.sl (fun i hi => x4.lt i hi) (fun i hi => by have := L3.lt i hi; have := L3.le'; omega) (by simp) ?_
    intro n4 H4 y1 y2
    have L4 := L3.frame y1 y2
    rw [show winnerR fansP.length 10 1 95 ([0, 18, 17].map askR) = .tuple #[.int .i64 2, .int .i64 0] from by kernel_rfl]
    simp (disch := omega) [-hset_if, -Bool.decide_and, hset_ne]
    exact Join.mk () ⟨rfl, rfl, rfl, rfl, rfl, rfl, rfl, rfl, rfl, rfl, rfl, rfl, rfl, trivial⟩ ⟨L4, by simp (disch := omega) [-hset_if, -Bool.decide_and, hset_ne, y2, x2, hA], by omega, by simp (disch := omega) [-hset_if, -Bool.decide_and, hset_ne, y2, x2, hB], by omega⟩
  clear L hA hA' hB hB'
  rintro _ n2 H2 ⟨L, hA, hA', hB, hB'⟩
  have hle := L.le
  have hle' := L.le'
  refine AW.step ?_
  simp (disch := omega) [-hset_if, -Bool.decide_and, hset_ne, L.gp]
  refine Line_ok (ps := fansP) L.ow (fun i hi => by have := L.lt i hi; omega) (by simp [fansP]) ?_
  intro n4 H4 u F y1 y2 y3 y4
  rw [show lineE ⟨#[102, 97, 110, 115]⟩ 10 fansP = 0 from by kernel_rfl]
  have el : (lineP ⟨#[102, 97, 110, 115]⟩ 10 fansP).length = 8 := by kernel_rfl
  simp (disch := omega) [-hset_if, -Bool.decide_and, hset_ne, y4.sl.cells, y4.sl.one]
  refine AW.ev ?_
  simp (disch := omega) [-hset_if, -Bool.decide_and, hset_ne, y4.sl.lenK, el, y2, hA, hB]
  refine start_ok ?_
  intro n5 H5 z1 z2
  simp (disch := omega) [-hset_if, -Bool.decide_and, hset_ne]
  refine Fin_id (hk _ _ (by omega) (fun i hi => by simp (disch := omega) [-hset_if, -Bool.decide_and, hset_ne, z2, y2, L.fr]))
end Go.Aw.S15
