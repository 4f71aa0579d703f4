/-
  Chapter 50: a request is served.
-/
import Derived.Test.YtfeclhjbkphjdaaS50r
namespace Go.Aw.S50
open Go.RowKit Go.Proofs Go.Aw.Tab
set_option linter.unusedSimpArgs false
set_option linter.unusedVariables false
set_option maxRecDepth 10000
set_option maxHeartbeats 2000000
set_option pp.deepTerms false
set_option pp.deepTerms.threshold 4
set_option pp.maxSteps 1500
variable {w0 : World} {n : Nat} {H : Heap} {K : Value → Nat → Heap → Prop}
attribute [local simp] Ans.cells Ask.cells Opn.cells Wt.cells Qt.cells intC NS.cells
/-- What a run shows. -/
structure NP where
  c : Cl
  sv : Srv
  m : Int → List (Int × Ans) × Int
  boot : Int
  asks : List Ask
  answers : List Ans
  given : List Ans
  data : List (Int × ByteArray)
def NS.p (s : NS) : NP := ⟨s.c, s.sv, memOf s.ms, s.boot, s.asks, s.answers, s.given, s.data⟩
structure NetX (H : Heap) (w0 : World) (n0 n N : Nat) (p : NP) : Prop where
  ex : ∃ col s, NetR H w0 n0 n N col s ∧ s.p = p
def gotP (p : NP) (sv : Srv) (m : Int → List (Int × Ans) × Int) (x : Ans) : NP := { p with sv := sv, m := m, answers := p.answers ++ [x], given := p.given ++ [x] }
def hnP (p : NP) (a : Ask) : (Ans × Bool × Int) × Srv := handleP p.sv (p.m 1) 1 a
def fnP (p : NP) (a : Ask) : (Ans × Int) × Srv × (Int → List (Int × Ans) × Int) := finP (hnP p a).2 0 (a.data ++ a.data) p.m
/-- A request is served. -/
def serveP (p : NP) (a : Ask) : NP :=
  if (hnP p a).1.2.2 ≠ 0 then { p with sv := (hnP p a).2 }
  else if (hnP p a).1.2.1 = true then gotP p (fnP p a).2.1 (fnP p a).2.2 (fnP p a).1.1
  else gotP p (hnP p a).2 p.m (hnP p a).1.1
theorem handle_same {sv : Srv} {m : List (Int × Ans) × Int} {c : Int} {a : Ask} : (handleP sv m c a).2.done = sv.done := by
  unfold handleP
  split
  · rfl
  split
  · rfl
  split
  · rfl
  split
  · rfl
  split <;> rfl
theorem serve_ok {n0 N : Nat} {p : NP} {a : Ask} (h : NetX H w0 n0 n N p) (hd : 0 ≤ p.sv.done ∧ p.sv.done < 1000) (hm : (p.m 1).1.length < 1000) (ha : a.data.size ≤ 400) (hl : p.given.length < 1000000 ∧ p.answers.length < 1000000)
    (hk : ∀ n' H', n ≤ n' → (∀ i, i < n0 → H' i = H i) → NetX H' w0 n0 n' N (serveP p a) → K (.tuple #[]) n' H') : ACall ⟨Try.prog, w0⟩ 44 [.pointer (some ⟨new N, 0, none⟩), .agg a.cells.toArray] K n H := by
  obtain ⟨col, s, g, rfl⟩ := h
  have hle := g.le
  have hN := g.N0
  refine ACall.run Try.func44 rfl Try.ntmps44 Try.results44 (by simp) fun J0 => ?_
  simp (disch := omega) [-hset_if, -Bool.decide_and, hset_ne]
  have g1 := g.al (n' := n + 1) (H' := hset n (.cells [.int .i64 a.boot, .int .i64 a.inv, .string a.data] 35 1) H) (by omega) (fun i hi _ => hset_ne (by omega) _ _)
  generalize hH1 : hset n _ H = H1 at *
  have ha1 : H1 n = .cells [.int .i64 a.boot, .int .i64 a.inv, .string a.data] 35 1 := by rw [← hH1, hset_same]
  have f1 : ∀ i, i < n0 → H1 i = H i := fun i hi => by rw [← hH1, hset_ne (by omega)]
  clear hH1
  have hc1 : ext n 7 col n = 7 := by unfold ext; rw [if_neg (by omega)]
  generalize ext n 7 col = col1 at *
  have hself1 := g1.self
  have hno1 : ¬ SvO s.S s.M s.ms n := fun y => by have := (g1.colS y).1; omega
  have hN1 := g1.N0
  have hx : hnP s.p a = handleP s.sv (memOf s.ms 1) 1 a := rfl
  have hxd : (handleP s.sv (memOf s.ms 1) 1 a).2.done = s.sv.done := handle_same
  dsimp only [NS.p] at hd hm hl
  refine AW.draw (X := ⟨_, 53, _, _⟩) (id := 1) mixed (.take 0 <| .take 1 <| .take 2 <| .take 3 <| .take 4 <| .each 5 [] (.take 6 <| .take 7 <| .take 8 <| .take 9 <| .each 10 [6, 7, 8, 9] (.each 11 [8, 9] (.take 12 <| .take 13 <| .done) <| .stop) <| .stop) <| .each 10 [0, 1, 2, 3, 4] (.each 5 [] (.take 6 <| .take 7 <| .take 8 <| .take 9 <| .each 11 [8, 9] (.take 12 <| .take 13 <| .done) <| .stop) <| .stop) <| .stop) (by kernel_rfl) ?_
  simp (disch := omega) [-hset_if, -Bool.decide_and, hset_ne, hself1, ha1]
  refine ⟨?_, ?_⟩
  · refine Handle_ok (c := 1) (a := a) g1.srv ?_
    rw [← hx] at hxd ⊢
    generalize hxP : hnP s.p a = x at *
    intro n4 H4 ms4 d1 d2 d3 d4 d5
    have d2' : ∀ i, i < n + 1 → ¬ SvO s.S s.M s.ms i → H4 i = H1 i := fun i hi hno => d2 i hi (fun e => hno (.inl e)) (fun e => hno (.inr (.inl e)))
    have g4 := g1.svS d1 d2' d4 d5
    have ha4 : H4 n = .cells [.int .i64 a.boot, .int .i64 a.inv, .string a.data] 35 1 := by rw [d2' n (by omega) hno1]; exact ha1
    have f4 : ∀ i, i < n0 → H4 i = H i := fun i hi => by rw [d2' i (by omega) (fun y => by have := (g1.colS y).1; have := g1.lo i hi; omega), f1 i hi]
    have hx' : x = handleP s.sv (memOf s.ms 1) 1 a := hx
    simp (disch := omega) [-hset_if, -Bool.decide_and, hset_ne, hdV]
    have g5 := g4.al (n' := n4 + 1) (H' := hset n4 (.cells [.int .i64 x.1.1.boot, .int .i64 x.1.1.inv, .int .i64 x.1.1.code, .string x.1.1.data] 33 1) H4) (by omega) (fun i hi _ => hset_ne (by omega) _ _)
    generalize hH5 : hset n4 _ H4 = H5 at *
    have hx5 : H5 n4 = .cells x.1.1.cells 33 1 := by rw [← hH5, hset_same]; rfl
    have ha5 : H5 n = .cells [.int .i64 a.boot, .int .i64 a.inv, .string a.data] 35 1 := by rw [← hH5, hset_ne (by omega)]; exact ha4
    have f5 : ∀ i, i < n0 → H5 i = H i := fun i hi => by rw [← hH5, hset_ne (by omega), f4 i hi]
    clear hH5
    have hk5 : ext n4 7 (ext (n + 1) 2 col1) n4 = 7 ∧ n4 < n4 + 1 := by refine ⟨?_, by omega⟩; unfold ext; rw [if_neg (by omega)]
    have hkn : ext n4 7 (ext (n + 1) 2 col1) n = 7 := by unfold ext; rw [if_pos (by omega), if_pos (by omega)]; exact hc1
    generalize ext n4 7 (ext (n + 1) 2 col1) = col5 at *
    have hle5 : n + 1 ≤ n4 := d1
    generalize hs5 : ({ s with sv := x.2, ms := ms4 } : NS) = s5 at *
    have hm5 : memOf ms4 = memOf s.ms := funext d3
    have hl5 : s5.given.length < 1000000 ∧ s5.answers.length < 1000000 := by rw [← hs5]; exact hl
    refine cif_bne (fun b1 => ?_) (fun b1 => ?_)
    rotate_left
    · simp (disch := omega) [-hset_if, -Bool.decide_and, hset_ne]
      refine Fin_id ?_
      refine hk _ _ (by omega) f5 ⟨_, _, g5, ?_⟩
      unfold serveP
      rw [hxP, if_pos b1, ← hs5]
      simp only [NS.p, hm5]
    simp (disch := omega) [-hset_if, -Bool.decide_and, hset_ne]
    refine cif_var (fun b2 => ?_) (fun b2 => ?_)
    · obtain ⟨hz1, hz2, hz3, hz4, hz5⟩ := handle_do (m := memOf s.ms) (by rw [← hx']; exact b2)
      have hself5 := g5.self
      have hs5v : s5.sv = x.2 ∧ s5.ms = ms4 := by rw [← hs5]; exact ⟨rfl, rfl⟩
      have hsr := g5.srv
      rw [hs5v.1, hs5v.2] at hsr
      simp (disch := omega) [-hset_if, -Bool.decide_and, hset_ne]
      refine AW.draw (X := ⟨_, 53, _, _⟩) (id := 4) mixed (.take 0 <| .take 1 <| .take 2 <| .take 3 <| .take 4 <| .take 5 <| .take 6 <| .take 7 <| .take 8 <| .each 9 [] (.take 10 <| .take 11 <| .take 12 <| .each 13 [12] (.done) <| .stop) <| .stop) (by kernel_rfl) ?_
      simp (disch := omega) [-hset_if, -Bool.decide_and, hset_ne, hself5, ha5]
      refine ⟨by omega, ?_⟩
      refine Finish_ok hsr (by omega) ?_ ?_ ?_
      · rw [← hx'] at hz4
        rw [hm5, hz4]
        exact hm
      · rw [← hx'] at hz4
        intro _ q hq
        rw [hm5, hz4] at hq
        rw [hz4]
        exact fun e => hz3 (.inl ⟨q, hq, e⟩)
      rw [hm5]
      have hfx : fnP s.p a = finP x.2 0 (a.data ++ a.data) (memOf s.ms) := by unfold fnP; rw [hxP]; rfl
      rw [← hfx]
      generalize hfP : fnP s.p a = f at *
      intro n6 H6a ms6 e1 e2 e3 e4 e5
      have e2' : ∀ i, i < (n4 + 1) → ¬ SvO s5.S s5.M s5.ms i → H6a i = H5 i := fun i hi hno => e2 i hi (by rw [hs5v.2] at hno; exact hno)
      have g6a := g5.svS e1 e2' (by rw [hs5v.2]; exact e4) e5
      have hx6a : H6a n4 = .cells x.1.1.cells 33 1 := by rw [e2' n4 (by omega) (fun y => by have := (g5.colS y).1; omega)]; exact hx5
      have f6a : ∀ i, i < n0 → H6a i = H i := fun i hi => by rw [e2' i (by have := g5.le; omega) (fun y => by have := (g5.colS y).1; have := g5.lo i hi; omega), f5 i hi]
      have hk6a : ext (n4 + 1) 2 col5 n4 = 7 := by unfold ext; rw [if_pos (by omega)]; exact hk5.1
      unfold Ans.cells at hx6a
      simp (disch := omega) [-hset_if, -Bool.decide_and, hset_ne, fnV, hx6a]
      have g6 := g6a.al (n' := n6) (H' := hset n4 (.cells f.1.1.cells 33 1) H6a) (Nat.le_refl _) (fun i hi hc => hset_ne (by rintro rfl; omega) _ _)
      unfold Ans.cells at g6
      generalize hH6 : hset n4 _ H6a = H6 at *
      have hx6 : H6 n4 = .cells f.1.1.cells 33 1 := by rw [← hH6, hset_same]; rfl
      have f6 : ∀ i, i < n0 → H6 i = H i := fun i hi => by rw [← hH6, hset_ne (by rintro rfl; have := g5.lo _ hi; omega), f6a i hi]
      clear hH6
      have hk6 : ext n6 7 (ext (n4 + 1) 2 col5) n4 = 7 ∧ n4 < n6 := by refine ⟨?_, by omega⟩; unfold ext; rw [if_pos (by omega), if_pos (by omega)]; exact hk5.1
      generalize ext n6 7 (ext (n4 + 1) 2 col5) = col6 at *
      generalize hs6 : ({ s5 with sv := f.2.1, ms := ms6 } : NS) = s6 at *
      have hl6 : s6.given.length < 1000000 ∧ s6.answers.length < 1000000 := by rw [← hs6]; exact hl5
      have hms6 : memOf ms6 = f.2.2 := funext e3
      have hself6 := g6.self
      refine AW.draw (X := ⟨_, 53, _, _⟩) (id := 5) mixed (.take 0 <| .take 1 <| .take 2 <| .take 3 <| .take 4 <| .take 5 <| .each 6 [0, 1, 2, 3, 4] (.each 7 [0] (.take 8 <| .take 9 <| .each 10 [] (.done) <| .stop) <| .stop) <| .stop) (by kernel_rfl) ?_
      simp (disch := omega) [-hset_if, -Bool.decide_and, hset_ne, hself6, hx6]
      refine g6.gv.push elemS67 zero33 (by simp) f.1.1 rfl rfl rfl (by omega) (by omega) ?_
      intro vg7 n7 H7 G7 p1 p2 p3 p4 p5
      have e7 : H7 N = H6 N := p3 N (by have := g6.N0; omega) (fun y => by have := (g6.colG y).1; have := g6.N0.1; omega)
      rw [hself6] at e7
      have hxx7 : H7 n4 = .cells (Ans.cells f.1.1) 33 1 := by rw [p3 n4 (by omega) (fun y => by have := (g6.colG y).1; omega)]; exact hx6
      simp (disch := omega) [-hset_if, -Bool.decide_and, hset_ne, e7, p5.sl.cells, p5.sl.one]
      have g7 := g6.gvS (n' := n7) (H' := hset N (.cells ({ s6 with given := s6.given ++ [f.1.1], vg := vg7, G := G7 } : NS).cells 79 1) H7) (by omega) (fun i hi hG hN => by rw [hset_ne hN, p3 i (by omega) hG]) (hset_same _ _ _) (fun i hi => by rcases p4 i hi with z | z; exact .inl z; exact .inr (by omega)) (p5.frame (Nat.le_refl _) (fun i hi => hset_ne (by rintro rfl; have := g6.N0; rcases p4 _ hi with z | z; have := (g6.colG z).1; omega; omega) _ _))
      unfold NS.cells at g7
      generalize hH8 : hset N _ H7 = H8 at *
      have hx8 : H8 n4 = .cells (Ans.cells f.1.1) 33 1 := by rw [← hH8, hset_ne (by rintro rfl; have := g6.N0.1; omega)]; exact hxx7
      have f8 : ∀ i, i < n0 → H8 i = H6 i := fun i hi => by
        have := g6.lo i hi
        have := g6.le
        rw [← hH8, hset_ne (by rintro rfl; have := g6.N0.1; omega), p3 i (by omega) (fun y => by have := (g6.colG y).1; omega)]
      clear hH8
      have hself8 := g7.self
      have hx8' := hx8
      unfold Ans.cells at hx8'
      refine AW.draw (X := ⟨_, 53, _, _⟩) (id := 6) mixed (.take 0 <| .take 1 <| .take 2 <| .take 3 <| .take 4 <| .take 5 <| .each 6 [0, 1, 2, 3, 4] (.each 7 [0] (.take 8 <| .take 9 <| .each 10 [] (.done) <| .stop) <| .stop) <| .stop) (by kernel_rfl) ?_
      simp (disch := omega) [-hset_if, -Bool.decide_and, hset_ne, hself8, hx8']
      refine g7.an.push elemS67 zero33 (by simp) f.1.1 rfl rfl rfl (by dsimp only; omega) (by dsimp only; omega) ?_
      intro vb9 n9 H9 B9 q1 q2 q3 q4 q5
      have e9 : H9 N = H8 N := q3 N (by have := g7.N0; omega) (fun y => by have := (g7.colB y).1; have := g7.N0.1; omega)
      rw [hself8] at e9
      simp (disch := omega) [-hset_if, -Bool.decide_and, hset_ne, e9, q5.sl.cells, q5.sl.one]
      refine Fin_id ?_
      have g9 := g7.anS (n' := n9) (H' := hset N (.cells ({ s6 with given := s6.given ++ [f.1.1], vg := vg7, G := G7, answers := s6.answers ++ [f.1.1], vb := vb9, B := B9 } : NS).cells 79 1) H9) (by omega) (fun i hi hG hN => by rw [hset_ne hN, q3 i (by omega) hG]) (hset_same _ _ _) (fun i hi => by rcases q4 i hi with z | z; exact .inl z; exact .inr (by omega)) (q5.frame (Nat.le_refl _) (fun i hi => hset_ne (by rintro rfl; have := g7.N0; rcases q4 _ hi with z | z; have := (g7.colB z).1; omega; omega) _ _))
      refine hk _ _ (by omega) (fun i hi => ?_) ⟨_, _, g9, ?_⟩
      · have := g7.lo i hi
        have := g7.le
        rw [hset_ne (by rintro rfl; have := g7.N0.1; omega), q3 i (by omega) (fun y => by have := (g7.colB y).1; omega), f8 i hi, f6 i hi]
      show NS.p _ = serveP s.p a
      unfold serveP
      rw [hxP, if_neg (by omega), if_pos b2, hfP, ← hs6, ← hs5]
      simp only [NS.p, gotP, hms6]
    · have hl5' := hl5
      have hself5 := g5.self
      refine AW.draw (X := ⟨_, 53, _, _⟩) (id := 5) mixed (.take 0 <| .take 1 <| .take 2 <| .take 3 <| .take 4 <| .take 5 <| .each 6 [0, 1, 2, 3, 4] (.each 7 [0] (.take 8 <| .take 9 <| .each 10 [] (.done) <| .stop) <| .stop) <| .stop) (by kernel_rfl) ?_
      simp (disch := omega) [-hset_if, -Bool.decide_and, hset_ne, hself5, hx5]
      refine g5.gv.push elemS67 zero33 (by simp) x.1.1 rfl rfl rfl (by omega) (by omega) ?_
      intro vg7 n7 H7 G7 p1 p2 p3 p4 p5
      have e7 : H7 N = H5 N := p3 N (by have := g5.N0; omega) (fun y => by have := (g5.colG y).1; have := g5.N0.1; omega)
      rw [hself5] at e7
      have hxx7 : H7 n4 = .cells (Ans.cells x.1.1) 33 1 := by rw [p3 n4 (by omega) (fun y => by have := (g5.colG y).1; omega)]; exact hx5
      simp (disch := omega) [-hset_if, -Bool.decide_and, hset_ne, e7, p5.sl.cells, p5.sl.one]
      have g7 := g5.gvS (n' := n7) (H' := hset N (.cells ({ s5 with given := s5.given ++ [x.1.1], vg := vg7, G := G7 } : NS).cells 79 1) H7) (by omega) (fun i hi hG hN => by rw [hset_ne hN, p3 i (by omega) hG]) (hset_same _ _ _) (fun i hi => by rcases p4 i hi with z | z; exact .inl z; exact .inr (by omega)) (p5.frame (Nat.le_refl _) (fun i hi => hset_ne (by rintro rfl; have := g5.N0; rcases p4 _ hi with z | z; have := (g5.colG z).1; omega; omega) _ _))
      unfold NS.cells at g7
      generalize hH8 : hset N _ H7 = H8 at *
      have hx8 : H8 n4 = .cells (Ans.cells x.1.1) 33 1 := by rw [← hH8, hset_ne (by rintro rfl; have := g5.N0.1; omega)]; exact hxx7
      have f8 : ∀ i, i < n0 → H8 i = H5 i := fun i hi => by
        have := g5.lo i hi
        have := g5.le
        rw [← hH8, hset_ne (by rintro rfl; have := g5.N0.1; omega), p3 i (by omega) (fun y => by have := (g5.colG y).1; omega)]
      clear hH8
      have hself8 := g7.self
      have hx8' := hx8
      unfold Ans.cells at hx8'
      refine AW.draw (X := ⟨_, 53, _, _⟩) (id := 6) mixed (.take 0 <| .take 1 <| .take 2 <| .take 3 <| .take 4 <| .take 5 <| .each 6 [0, 1, 2, 3, 4] (.each 7 [0] (.take 8 <| .take 9 <| .each 10 [] (.done) <| .stop) <| .stop) <| .stop) (by kernel_rfl) ?_
      simp (disch := omega) [-hset_if, -Bool.decide_and, hset_ne, hself8, hx8']
      refine g7.an.push elemS67 zero33 (by simp) x.1.1 rfl rfl rfl (by dsimp only; omega) (by dsimp only; omega) ?_
      intro vb9 n9 H9 B9 q1 q2 q3 q4 q5
      have e9 : H9 N = H8 N := q3 N (by have := g7.N0; omega) (fun y => by have := (g7.colB y).1; have := g7.N0.1; omega)
      rw [hself8] at e9
      simp (disch := omega) [-hset_if, -Bool.decide_and, hset_ne, e9, q5.sl.cells, q5.sl.one]
      refine Fin_id ?_
      have g9 := g7.anS (n' := n9) (H' := hset N (.cells ({ s5 with given := s5.given ++ [x.1.1], vg := vg7, G := G7, answers := s5.answers ++ [x.1.1], vb := vb9, B := B9 } : NS).cells 79 1) H9) (by omega) (fun i hi hG hN => by rw [hset_ne hN, q3 i (by omega) hG]) (hset_same _ _ _) (fun i hi => by rcases q4 i hi with z | z; exact .inl z; exact .inr (by omega)) (q5.frame (Nat.le_refl _) (fun i hi => hset_ne (by rintro rfl; have := g7.N0; rcases q4 _ hi with z | z; have := (g7.colB z).1; omega; omega) _ _))
      refine hk _ _ (by omega) (fun i hi => ?_) ⟨_, _, g9, ?_⟩
      · have := g7.lo i hi
        have := g7.le
        rw [hset_ne (by rintro rfl; have := g7.N0.1; omega), q3 i (by omega) (fun y => by have := (g7.colB y).1; omega), f8 i hi, f5 i hi]
      show NS.p _ = serveP s.p a
      unfold serveP
      rw [hxP, if_neg (by omega), if_neg (by simp [b2]), ← hs5]
      simp only [NS.p, gotP, hm5]
  · have g2 := g1.al (n' := n + 1 + 1) (H' := hset (n + 1) (.cells [.int .i64 0, .int .i64 0, .int .i64 0, .string ⟨#[]⟩] 33 1) H1) (by omega) (fun i hi _ => hset_ne (by omega) _ _)
    refine Handle_ok (c := 1) (a := a) g2.srv ?_
    rw [← hx] at hxd ⊢
    generalize hxP : hnP s.p a = x at *
    intro n4 H4 ms4 d1 d2 d3 d4 d5
    have d2' : ∀ i, i < n + 1 + 1 → ¬ SvO s.S s.M s.ms i → H4 i = hset (n + 1) (.cells [.int .i64 0, .int .i64 0, .int .i64 0, .string ⟨#[]⟩] 33 1) H1 i := fun i hi hno => d2 i hi (fun e => hno (.inl e)) (fun e => hno (.inr (.inl e)))
    have g4 := g2.svS d1 d2' d4 d5
    have hno2 : ¬ SvO s.S s.M s.ms (n + 1) := fun y => by have := (g1.colS y).2; omega
    have ha4 : H4 n = .cells [.int .i64 a.boot, .int .i64 a.inv, .string a.data] 35 1 := by rw [d2' n (by omega) hno1, hset_ne (by omega)]; exact ha1
    have hz4 : H4 (n + 1) = .cells [.int .i64 0, .int .i64 0, .int .i64 0, .string ⟨#[]⟩] 33 1 := by rw [d2' (n + 1) (by omega) hno2, hset_same]
    have f4 : ∀ i, i < n0 → H4 i = H i := fun i hi => by rw [d2' i (by omega) (fun y => by have := (g1.colS y).1; have := g1.lo i hi; omega), hset_ne (by omega), f1 i hi]
    have hx' : x = handleP s.sv (memOf s.ms 1) 1 a := hx
    have hk4 : ext (n + 1 + 1) 2 (ext (n + 1) 7 col1) (n + 1) = 7 := by unfold ext; rw [if_pos (by omega), if_neg (by omega)]
    have hkn4 : ext (n + 1 + 1) 2 (ext (n + 1) 7 col1) n = 7 := by unfold ext; rw [if_pos (by omega), if_pos (by omega)]; exact hc1
    generalize ext (n + 1 + 1) 2 (ext (n + 1) 7 col1) = col4 at *
    simp (disch := omega) [-hset_if, -Bool.decide_and, hset_ne, hdV, hz4]
    have g5 := g4.al (n' := n4) (H' := hset (n + 1) (.cells [.int .i64 x.1.1.boot, .int .i64 x.1.1.inv, .int .i64 x.1.1.code, .string x.1.1.data] 33 1) H4) (Nat.le_refl _) (fun i hi hc => hset_ne (by rintro rfl; omega) _ _)
    generalize hH5 : hset (n + 1) _ H4 = H5 at *
    have hx5 : H5 (n + 1) = .cells x.1.1.cells 33 1 := by rw [← hH5, hset_same]; rfl
    have ha5 : H5 n = .cells [.int .i64 a.boot, .int .i64 a.inv, .string a.data] 35 1 := by rw [← hH5, hset_ne (by omega)]; exact ha4
    have f5 : ∀ i, i < n0 → H5 i = H i := fun i hi => by rw [← hH5, hset_ne (by omega), f4 i hi]
    clear hH5
    have hk5 : ext n4 7 col4 (n + 1) = 7 ∧ n + 1 < n4 := by refine ⟨?_, by omega⟩; unfold ext; rw [if_pos (by omega)]; exact hk4
    have hkn : ext n4 7 col4 n = 7 := by unfold ext; rw [if_pos (by omega)]; exact hkn4
    generalize ext n4 7 col4 = col5 at *
    have hle5 : n + 1 + 1 ≤ n4 := d1
    generalize hs5 : ({ s with sv := x.2, ms := ms4 } : NS) = s5 at *
    have hm5 : memOf ms4 = memOf s.ms := funext d3
    have hl5 : s5.given.length < 1000000 ∧ s5.answers.length < 1000000 := by rw [← hs5]; exact hl
    refine cif_bne (fun b1 => ?_) (fun b1 => ?_)
    rotate_left
    · simp (disch := omega) [-hset_if, -Bool.decide_and, hset_ne]
      refine Fin_id ?_
      refine hk _ _ (by omega) f5 ⟨_, _, g5, ?_⟩
      unfold serveP
      rw [hxP, if_pos b1, ← hs5]
      simp only [NS.p, hm5]
    simp (disch := omega) [-hset_if, -Bool.decide_and, hset_ne]
    refine cif_var (fun b2 => ?_) (fun b2 => ?_)
    · obtain ⟨hz1, hz2, hz3, hz4, hz5⟩ := handle_do (m := memOf s.ms) (by rw [← hx']; exact b2)
      have hself5 := g5.self
      have hs5v : s5.sv = x.2 ∧ s5.ms = ms4 := by rw [← hs5]; exact ⟨rfl, rfl⟩
      have hsr := g5.srv
      rw [hs5v.1, hs5v.2] at hsr
      simp (disch := omega) [-hset_if, -Bool.decide_and, hset_ne]
      refine AW.draw (X := ⟨_, 53, _, _⟩) (id := 4) mixed (.take 0 <| .take 1 <| .take 2 <| .take 3 <| .take 4 <| .take 5 <| .take 6 <| .take 7 <| .take 8 <| .each 9 [] (.take 10 <| .take 11 <| .take 12 <| .each 13 [12] (.done) <| .stop) <| .stop) (by kernel_rfl) ?_
      simp (disch := omega) [-hset_if, -Bool.decide_and, hset_ne, hself5, ha5]
      refine ⟨by omega, ?_⟩
      refine Finish_ok hsr (by omega) ?_ ?_ ?_
      · rw [← hx'] at hz4
        rw [hm5, hz4]
        exact hm
      · rw [← hx'] at hz4
        intro _ q hq
        rw [hm5, hz4] at hq
        rw [hz4]
        exact fun e => hz3 (.inl ⟨q, hq, e⟩)
      rw [hm5]
      have hfx : fnP s.p a = finP x.2 0 (a.data ++ a.data) (memOf s.ms) := by unfold fnP; rw [hxP]; rfl
      rw [← hfx]
      generalize hfP : fnP s.p a = f at *
      intro n6 H6a ms6 e1 e2 e3 e4 e5
      have e2' : ∀ i, i < n4 → ¬ SvO s5.S s5.M s5.ms i → H6a i = H5 i := fun i hi hno => e2 i hi (by rw [hs5v.2] at hno; exact hno)
      have g6a := g5.svS e1 e2' (by rw [hs5v.2]; exact e4) e5
      have hx6a : H6a (n + 1) = .cells x.1.1.cells 33 1 := by rw [e2' (n + 1) (by omega) (fun y => by have := (g5.colS y).1; omega)]; exact hx5
      have f6a : ∀ i, i < n0 → H6a i = H i := fun i hi => by rw [e2' i (by have := g5.le; omega) (fun y => by have := (g5.colS y).1; have := g5.lo i hi; omega), f5 i hi]
      have hk6a : ext n4 2 col5 (n + 1) = 7 := by unfold ext; rw [if_pos (by omega)]; exact hk5.1
      unfold Ans.cells at hx6a
      simp (disch := omega) [-hset_if, -Bool.decide_and, hset_ne, fnV, hx6a]
      have g6 := g6a.al (n' := n6) (H' := hset (n + 1) (.cells f.1.1.cells 33 1) H6a) (Nat.le_refl _) (fun i hi hc => hset_ne (by rintro rfl; omega) _ _)
      unfold Ans.cells at g6
      generalize hH6 : hset (n + 1) _ H6a = H6 at *
      have hx6 : H6 (n + 1) = .cells f.1.1.cells 33 1 := by rw [← hH6, hset_same]; rfl
      have f6 : ∀ i, i < n0 → H6 i = H i := fun i hi => by rw [← hH6, hset_ne (by rintro rfl; have := g5.lo _ hi; omega), f6a i hi]
      clear hH6
      have hk6 : ext n6 7 (ext n4 2 col5) (n + 1) = 7 ∧ (n + 1) < n6 := by refine ⟨?_, by omega⟩; unfold ext; rw [if_pos (by omega), if_pos (by omega)]; exact hk5.1
      generalize ext n6 7 (ext n4 2 col5) = col6 at *
      generalize hs6 : ({ s5 with sv := f.2.1, ms := ms6 } : NS) = s6 at *
      have hl6 : s6.given.length < 1000000 ∧ s6.answers.length < 1000000 := by rw [← hs6]; exact hl5
      have hms6 : memOf ms6 = f.2.2 := funext e3
      have hself6 := g6.self
      refine AW.draw (X := ⟨_, 53, _, _⟩) (id := 5) mixed (.take 0 <| .take 1 <| .take 2 <| .take 3 <| .take 4 <| .take 5 <| .each 6 [0, 1, 2, 3, 4] (.each 7 [0] (.take 8 <| .take 9 <| .each 10 [] (.done) <| .stop) <| .stop) <| .stop) (by kernel_rfl) ?_
      simp (disch := omega) [-hset_if, -Bool.decide_and, hset_ne, hself6, hx6]
      refine g6.gv.push elemS67 zero33 (by simp) f.1.1 rfl rfl rfl (by omega) (by omega) ?_
      intro vg7 n7 H7 G7 p1 p2 p3 p4 p5
      have e7 : H7 N = H6 N := p3 N (by have := g6.N0; omega) (fun y => by have := (g6.colG y).1; have := g6.N0.1; omega)
      rw [hself6] at e7
      have hxx7 : H7 (n + 1) = .cells (Ans.cells f.1.1) 33 1 := by rw [p3 (n + 1) (by omega) (fun y => by have := (g6.colG y).1; omega)]; exact hx6
      simp (disch := omega) [-hset_if, -Bool.decide_and, hset_ne, e7, p5.sl.cells, p5.sl.one]
      have g7 := g6.gvS (n' := n7) (H' := hset N (.cells ({ s6 with given := s6.given ++ [f.1.1], vg := vg7, G := G7 } : NS).cells 79 1) H7) (by omega) (fun i hi hG hN => by rw [hset_ne hN, p3 i (by omega) hG]) (hset_same _ _ _) (fun i hi => by rcases p4 i hi with z | z; exact .inl z; exact .inr (by omega)) (p5.frame (Nat.le_refl _) (fun i hi => hset_ne (by rintro rfl; have := g6.N0; rcases p4 _ hi with z | z; have := (g6.colG z).1; omega; omega) _ _))
      unfold NS.cells at g7
      generalize hH8 : hset N _ H7 = H8 at *
      have hx8 : H8 (n + 1) = .cells (Ans.cells f.1.1) 33 1 := by rw [← hH8, hset_ne (by rintro rfl; have := g6.N0.1; omega)]; exact hxx7
      have f8 : ∀ i, i < n0 → H8 i = H6 i := fun i hi => by
        have := g6.lo i hi
        have := g6.le
        rw [← hH8, hset_ne (by rintro rfl; have := g6.N0.1; omega), p3 i (by omega) (fun y => by have := (g6.colG y).1; omega)]
      clear hH8
      have hself8 := g7.self
      have hx8' := hx8
      unfold Ans.cells at hx8'
      refine AW.draw (X := ⟨_, 53, _, _⟩) (id := 6) mixed (.take 0 <| .take 1 <| .take 2 <| .take 3 <| .take 4 <| .take 5 <| .each 6 [0, 1, 2, 3, 4] (.each 7 [0] (.take 8 <| .take 9 <| .each 10 [] (.done) <| .stop) <| .stop) <| .stop) (by kernel_rfl) ?_
      simp (disch := omega) [-hset_if, -Bool.decide_and, hset_ne, hself8, hx8']
      refine g7.an.push elemS67 zero33 (by simp) f.1.1 rfl rfl rfl (by dsimp only; omega) (by dsimp only; omega) ?_
      intro vb9 n9 H9 B9 q1 q2 q3 q4 q5
      have e9 : H9 N = H8 N := q3 N (by have := g7.N0; omega) (fun y => by have := (g7.colB y).1; have := g7.N0.1; omega)
      rw [hself8] at e9
      simp (disch := omega) [-hset_if, -Bool.decide_and, hset_ne, e9, q5.sl.cells, q5.sl.one]
      refine Fin_id ?_
      have g9 := g7.anS (n' := n9) (H' := hset N (.cells ({ s6 with given := s6.given ++ [f.1.1], vg := vg7, G := G7, answers := s6.answers ++ [f.1.1], vb := vb9, B := B9 } : NS).cells 79 1) H9) (by omega) (fun i hi hG hN => by rw [hset_ne hN, q3 i (by omega) hG]) (hset_same _ _ _) (fun i hi => by rcases q4 i hi with z | z; exact .inl z; exact .inr (by omega)) (q5.frame (Nat.le_refl _) (fun i hi => hset_ne (by rintro rfl; have := g7.N0; rcases q4 _ hi with z | z; have := (g7.colB z).1; omega; omega) _ _))
      refine hk _ _ (by omega) (fun i hi => ?_) ⟨_, _, g9, ?_⟩
      · have := g7.lo i hi
        have := g7.le
        rw [hset_ne (by rintro rfl; have := g7.N0.1; omega), q3 i (by omega) (fun y => by have := (g7.colB y).1; omega), f8 i hi, f6 i hi]
      show NS.p _ = serveP s.p a
      unfold serveP
      rw [hxP, if_neg (by omega), if_pos b2, hfP, ← hs6, ← hs5]
      simp only [NS.p, gotP, hms6]
    · have hl5' := hl5
      have hself5 := g5.self
      refine AW.draw (X := ⟨_, 53, _, _⟩) (id := 5) mixed (.take 0 <| .take 1 <| .take 2 <| .take 3 <| .take 4 <| .take 5 <| .each 6 [0, 1, 2, 3, 4] (.each 7 [0] (.take 8 <| .take 9 <| .each 10 [] (.done) <| .stop) <| .stop) <| .stop) (by kernel_rfl) ?_
      simp (disch := omega) [-hset_if, -Bool.decide_and, hset_ne, hself5, hx5]
      refine g5.gv.push elemS67 zero33 (by simp) x.1.1 rfl rfl rfl (by omega) (by omega) ?_
      intro vg7 n7 H7 G7 p1 p2 p3 p4 p5
      have e7 : H7 N = H5 N := p3 N (by have := g5.N0; omega) (fun y => by have := (g5.colG y).1; have := g5.N0.1; omega)
      rw [hself5] at e7
      have hxx7 : H7 (n + 1) = .cells (Ans.cells x.1.1) 33 1 := by rw [p3 (n + 1) (by omega) (fun y => by have := (g5.colG y).1; omega)]; exact hx5
      simp (disch := omega) [-hset_if, -Bool.decide_and, hset_ne, e7, p5.sl.cells, p5.sl.one]
      have g7 := g5.gvS (n' := n7) (H' := hset N (.cells ({ s5 with given := s5.given ++ [x.1.1], vg := vg7, G := G7 } : NS).cells 79 1) H7) (by omega) (fun i hi hG hN => by rw [hset_ne hN, p3 i (by omega) hG]) (hset_same _ _ _) (fun i hi => by rcases p4 i hi with z | z; exact .inl z; exact .inr (by omega)) (p5.frame (Nat.le_refl _) (fun i hi => hset_ne (by rintro rfl; have := g5.N0; rcases p4 _ hi with z | z; have := (g5.colG z).1; omega; omega) _ _))
      unfold NS.cells at g7
      generalize hH8 : hset N _ H7 = H8 at *
      have hx8 : H8 (n + 1) = .cells (Ans.cells x.1.1) 33 1 := by rw [← hH8, hset_ne (by rintro rfl; have := g5.N0.1; omega)]; exact hxx7
      have f8 : ∀ i, i < n0 → H8 i = H5 i := fun i hi => by
        have := g5.lo i hi
        have := g5.le
        rw [← hH8, hset_ne (by rintro rfl; have := g5.N0.1; omega), p3 i (by omega) (fun y => by have := (g5.colG y).1; omega)]
      clear hH8
      have hself8 := g7.self
      have hx8' := hx8
      unfold Ans.cells at hx8'
      refine AW.draw (X := ⟨_, 53, _, _⟩) (id := 6) mixed (.take 0 <| .take 1 <| .take 2 <| .take 3 <| .take 4 <| .take 5 <| .each 6 [0, 1, 2, 3, 4] (.each 7 [0] (.take 8 <| .take 9 <| .each 10 [] (.done) <| .stop) <| .stop) <| .stop) (by kernel_rfl) ?_
      simp (disch := omega) [-hset_if, -Bool.decide_and, hset_ne, hself8, hx8']
      refine g7.an.push elemS67 zero33 (by simp) x.1.1 rfl rfl rfl (by dsimp only; omega) (by dsimp only; omega) ?_
      intro vb9 n9 H9 B9 q1 q2 q3 q4 q5
      have e9 : H9 N = H8 N := q3 N (by have := g7.N0; omega) (fun y => by have := (g7.colB y).1; have := g7.N0.1; omega)
      rw [hself8] at e9
      simp (disch := omega) [-hset_if, -Bool.decide_and, hset_ne, e9, q5.sl.cells, q5.sl.one]
      refine Fin_id ?_
      have g9 := g7.anS (n' := n9) (H' := hset N (.cells ({ s5 with given := s5.given ++ [x.1.1], vg := vg7, G := G7, answers := s5.answers ++ [x.1.1], vb := vb9, B := B9 } : NS).cells 79 1) H9) (by omega) (fun i hi hG hN => by rw [hset_ne hN, q3 i (by omega) hG]) (hset_same _ _ _) (fun i hi => by rcases q4 i hi with z | z; exact .inl z; exact .inr (by omega)) (q5.frame (Nat.le_refl _) (fun i hi => hset_ne (by rintro rfl; have := g7.N0; rcases q4 _ hi with z | z; have := (g7.colB z).1; omega; omega) _ _))
      refine hk _ _ (by omega) (fun i hi => ?_) ⟨_, _, g9, ?_⟩
      · have := g7.lo i hi
        have := g7.le
        rw [hset_ne (by rintro rfl; have := g7.N0.1; omega), q3 i (by omega) (fun y => by have := (g7.colB y).1; omega), f8 i hi, f5 i hi]
      show NS.p _ = serveP s.p a
      unfold serveP
      rw [hxP, if_neg (by omega), if_neg (by simp [b2]), ← hs5]
      simp only [NS.p, gotP, hm5]
end Go.Aw.S50
