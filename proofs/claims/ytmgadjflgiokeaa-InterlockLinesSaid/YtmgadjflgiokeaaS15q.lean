/-
  Chapter 15: Breaks.
-/
import Derived.Test.YtmgadjflgiokeaaS15o
namespace Go.Aw.S15
open Go.RowKit Go.Proofs Go.Aw.Tab
set_option linter.unusedSimpArgs false
set_option linter.unusedVariables false
set_option maxRecDepth 10000
set_option maxHeartbeats 1000000
set_option pp.deepTerms false
set_option pp.deepTerms.threshold 4
set_option pp.maxSteps 1500
variable {w0 : World} {n : Nat} {H : Heap} {K : Value → Nat → Heap → Prop}
variable {pv av : Value} {D E : Nat → Prop} {nm : ByteArray} {ps : List ByteArray} {dead : Int}
structure Sta where
  on : Int
  left : Int
  deriving Inhabited, DecidableEq
def Sta.cells (s : Sta) : List Value := [.int .i64 s.on, .int .i64 s.left]
attribute [local simp] Sta.cells
def onP (np : Nat) (s : Sta) : Int := if s.on < 0 ∨ (np : Int) ≤ s.on then -1 else s.on
def brk (np : Nat) (dead : Int) : List Sta → Nat → Int → Int → Bool → Int
  | [], _, _, _, _ => -1
  | s :: r, i, before, off, ever =>
    if 0 < i then
      if 0 ≤ onP np s ∧ onP np s ≠ before ∧ (0 ≤ before ∨ ever = true ∧ (i : Int) - off < dead) then i
      else if 0 ≤ before ∧ onP np s < 0 then brk np dead r (i + 1) (onP np s) i true
      else brk np dead r (i + 1) (onP np s) off ever
    else brk np dead r (i + 1) (onP np s) off ever
theorem drop_at {α : Type} [Inhabited α] {l : List α} {j : Nat} (h : j < l.length) : l.drop j = at_ l (j : Int) :: l.drop (j + 1) := by
  rw [at_nat h]; exact List.drop_eq_getElem_cons h
/-- What is to be shown of a result x. -/
def Res (n : Nat) (H : Heap) (K : Value → Nat → Heap → Prop) (x : Value) : Prop := ∀ n' H', n ≤ n' → (∀ i, i < n → H' i = H i) → K x n' H'
theorem Res.fin {n n1 n0 : Nat} {H H1 : Heap} {K : Value → Nat → Heap → Prop} {x y : Value} (hk : Res n H K x) (e : x = y) (h1 : n ≤ n1) (h2 : ∀ i, i < n → H1 i = H i) : Fin n0 K y n1 H1 := Fin_id (e ▸ hk n1 H1 h1 h2)
theorem Res.of {n : Nat} {H : Heap} {K : Value → Nat → Heap → Prop} {x y : Value} (hk : Res n H K x) (e : x = y) : Res n H K y := e ▸ hk
theorem breaks_ok {l : List Sta} (hp : SlR ⟨Try.prog, w0⟩ H E 1 strC pv ps) (hs : SlR ⟨Try.prog, w0⟩ H D 2 Sta.cells av l) (hD : ∀ i, D i → i < n) (hb : l.length < 1000000)
    (hk : Res n H K (.int .i64 (brk ps.length dead l 0 (-1) 0 false))) :
    ACall ⟨Try.prog, w0⟩ 27 [.agg #[.string nm, pv, .int .i64 dead], av] K n H := by
  have hpc := hp.cells
  have hsc := hs.cells
  refine ACall.run Try.func27 rfl Try.ntmps27 Try.results27 (by simp) fun J0 => ?_
  simp (disch := omega) [-hset_if, -Bool.decide_and, hset_ne, hpc, hsc, hs.lenK]
  refine AW.while (σ := Nat × Int × Int × Bool) (fun s => l.length - s.1) (fun s => [(2, .pointer (some ⟨new n, 0, none⟩)), (11, av), (12, .int .i64 l.length), (5, .int .i64 s.2.1), (6, .int .i64 s.2.2.1), (7, .bool s.2.2.2), (13, .int .i64 s.1)])
    (fun s n1 H1 => s.1 ≤ l.length ∧ n + 1 ≤ n1 ∧ (∀ i, i < n → H1 i = H i) ∧ H1 n = .cells [.string nm, pv, .int .i64 dead] 24 1 ∧ 0 ≤ s.2.2.1 ∧ s.2.2.1 ≤ s.1 ∧ Res n H K (.int .i64 (brk ps.length dead (l.drop s.1) s.1 s.2.1 s.2.2.1 s.2.2.2))) (0, -1, 0, false) ?_ ?_ ?_
  · simp (disch := omega) [-hset_if, -Bool.decide_and, hset_ne]
  · exact ⟨by simp, by simp, (fun i hi => by simp (disch := omega) only [hset_ne]), by simp (disch := omega) [-hset_if, -Bool.decide_and, hset_ne], by simp, by simp, hk⟩
  clear hk
  rintro ⟨j, before, off, ever⟩ n1 H1 ⟨g1, g2, g3, g4, g5, g6, hk⟩
  dsimp only at g1 g2 g3 g4 g5 g6 hk ⊢
  have hs1 : SlR ⟨Try.prog, w0⟩ H1 D 2 Sta.cells av l := hs.frame (fun i hi => g3 i (hD i hi))
  have hl := hp.lenK
  simp (disch := omega) [-hset_if, -Bool.decide_and, hset_ne]
  refine cif_dec (fun h => ?_) (fun h => ?_)
  · rw [drop_at h, brk] at hk
    simp (disch := omega) [-hset_if, -Bool.decide_and, hset_ne, hs1.ix elemS61, hs1.load shp29, hs1.load0 shp29, g4, hl]
    repeat' (first | (with_reducible intro _; first | (exfalso; omega) | (simp (disch := omega) [-hset_if, -Bool.decide_and, hset_ne, hs1.ix elemS61, hs1.load shp29, hs1.load0 shp29, g4, hl]) | skip) | with_reducible apply cif_dec | with_reducible apply cif_beq | with_reducible apply cif_bne | with_reducible apply cif_var | with_reducible apply gif_dec | with_reducible apply gif_ndec | with_reducible apply gif_beq | with_reducible apply gif_bne | with_reducible apply gif_nbeq | with_reducible apply gif_var)
    all_goals first | (refine Res.fin hk ?_ ?_ ?_) | (refine Next.mk (_, _, _, _) ?_ ⟨rfl, rfl, rfl, rfl, rfl, rfl, rfl, trivial⟩ ?_)
    all_goals try (refine ⟨?_, ?_, ?_, ?_, ?_, ?_, Res.of hk ?_⟩)
    all_goals first | omega | (dsimp only; omega) | (intro i hi; simp (disch := omega) [-hset_if, -Bool.decide_and, hset_ne, g3]; done) | (simp (disch := omega) [-hset_if, -Bool.decide_and, hset_ne, g4]; done) | skip
    all_goals grind [onP]
  · simp (disch := omega) [-hset_if, -Bool.decide_and, hset_ne]
    rw [List.drop_of_length_le (by omega)] at hk
    exact hk.fin rfl (by omega) g3
theorem breaksR_ok {l : List Sta} (hp : SlR ⟨Try.prog, w0⟩ H E 1 strC pv ps) (hs : SlR ⟨Try.prog, w0⟩ H D 2 Sta.cells av l) (hD : ∀ i, D i → i < n) (hb : l.length < 1000000)
    (hk : Res n H K (.int .i64 (brk ps.length dead l 0 (-1) 0 false))) :
    ACall ⟨Try.prog, w0⟩ 28 [.agg #[.string nm, pv, .int .i64 dead], av] K n H := by
  have hpc := hp.cells
  have hsc := hs.cells
  refine ACall.run Try.func28 rfl Try.ntmps28 Try.results28 (by simp) fun J0 => ?_
  simp (disch := omega) [-hset_if, -Bool.decide_and, hset_ne, hpc, hsc, hs.lenK]
  refine AW.while (σ := Nat × Int × Int × Int × Int × Bool) (fun s => l.length - s.1) (fun s => [(2, .pointer (some ⟨new n, 0, none⟩)), (1, av), (5, .int .i64 s.2.1), (6, .int .i64 s.2.2.1), (7, .int .i64 s.1)])
    (fun s n1 H1 => s.1 ≤ l.length ∧ n + 1 ≤ n1 ∧ (∀ i, i < n → H1 i = H i) ∧ H1 n = .cells [.string nm, pv, .int .i64 dead] 24 1 ∧ 0 ≤ s.2.2.1 ∧ s.2.2.1 ≤ s.1 ∧
      (0 ≤ s.2.2.2.1 → s.2.1 = s.2.2.2.1 ∧ s.2.2.1 = 0 ∧ 0 < s.1) ∧ (s.2.2.2.1 < 0 → s.2.2.2.1 = -1) ∧ (s.2.2.2.1 < 0 → s.2.2.2.2.2 = true → 0 ≤ s.2.1 ∧ s.2.2.1 = s.1 - s.2.2.2.2.1 ∧ 1 ≤ s.2.2.1) ∧ (s.2.2.2.1 < 0 → s.2.2.2.2.2 = false → s.2.1 = -1) ∧
      Res n H K (.int .i64 (brk ps.length dead (l.drop s.1) s.1 s.2.2.2.1 s.2.2.2.2.1 s.2.2.2.2.2))) (0, -1, 0, -1, 0, false) ?_ ?_ ?_
  · simp (disch := omega) [-hset_if, -Bool.decide_and, hset_ne]
  · exact ⟨by simp, by simp, (fun i hi => by simp (disch := omega) only [hset_ne]), by simp (disch := omega) [-hset_if, -Bool.decide_and, hset_ne], by simp, by simp, by simp, by simp, by simp, by simp, hk⟩
  clear hk
  rintro ⟨j, last, since, before, off, ever⟩ n1 H1 ⟨g1, g2, g3, g4, g5, g6, g7, g8, g9, g10, hk⟩
  dsimp only at g1 g2 g3 g4 g5 g6 g7 g8 g9 g10 hk ⊢
  have hs1 : SlR ⟨Try.prog, w0⟩ H1 D 2 Sta.cells av l := hs.frame (fun i hi => g3 i (hD i hi))
  have hl := hp.lenK
  simp (disch := omega) [-hset_if, -Bool.decide_and, hset_ne, hs1.lenK]
  refine cif_dec (fun h => ?_) (fun h => ?_)
  · rw [drop_at h, brk] at hk
    simp (disch := omega) [-hset_if, -Bool.decide_and, hset_ne, hs1.ix elemS67, hs1.load shp3, hs1.load0 shp3, g4, hl]
    repeat' (first | (with_reducible intro _; first | (exfalso; omega) | (simp (disch := omega) [-hset_if, -Bool.decide_and, hset_ne, hs1.ix elemS67, hs1.load shp3, hs1.load0 shp3, g4, hl]) | skip) | with_reducible apply cif_dec | with_reducible apply cif_beq | with_reducible apply cif_bne | with_reducible apply cif_var | with_reducible apply gif_dec | with_reducible apply gif_ndec | with_reducible apply gif_beq | with_reducible apply gif_bne | with_reducible apply gif_nbeq | with_reducible apply gif_var)
    all_goals first | (refine Res.fin hk ?_ ?_ ?_) | (refine Next.mk (j + 1, _, _, onP ps.length (at_ l (j : Int)), if 0 ≤ before ∧ onP ps.length (at_ l (j : Int)) < 0 then (j : Int) else off, ever || decide (0 ≤ before ∧ onP ps.length (at_ l (j : Int)) < 0)) ?_ ⟨rfl, rfl, rfl, rfl, rfl, trivial⟩ ?_)
    all_goals try (refine ⟨?_, ?_, ?_, ?_, ?_, ?_, ?_, ?_, ?_, ?_, Res.of hk ?_⟩)
    all_goals first | omega | (dsimp only; omega) | (intro i hi; simp (disch := omega) [-hset_if, -Bool.decide_and, hset_ne, g3]; done) | (simp (disch := omega) [-hset_if, -Bool.decide_and, hset_ne, g4]; done) | skip
    all_goals (cases ever)
    all_goals grind [onP]
  · simp (disch := omega) [-hset_if, -Bool.decide_and, hset_ne]
    rw [List.drop_of_length_le (by omega)] at hk
    exact hk.fin rfl (by omega) g3
end Go.Aw.S15
