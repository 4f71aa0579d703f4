/-
  Chapter 15: InterlockRuns.
-/
import Derived.Test.YtmgadjflgiokeaaS15x
namespace Go.Aw.S15
open Go.RowKit Go.Proofs Go.Aw.Tab
set_option linter.unusedSimpArgs false
set_option linter.unusedVariables false
set_option maxRecDepth 10000
set_option maxHeartbeats 2000000
set_option pp.deepTerms false
set_option pp.deepTerms.threshold 4
set_option pp.maxSteps 1500
variable {w0 : World} {n : Nat} {H : Heap} {K : Value → Nat → Heap → Prop}
variable {pv ov : Value} {nm : ByteArray} {ps : List ByteArray} {dead now : Int}
attribute [local simp] IRow.cells intC Sta.cells
theorem fitsB_iff {np : Nat} {rows : List (List Int)} : fitsB np dead now rows = true ↔ (np ≤ 20 ∧ 0 ≤ dead ∧ dead ≤ 3600 ∧ 0 ≤ now ∧ now ≤ 1000000 ∧ rows.length ≤ 40) ∧ rows.all (rowB np) = true := by
  simp [fitsB]
theorem runs_ok {rows : List IRow} (hp : ∀ G, SlR ⟨Try.prog, w0⟩ G (fun _ => False) 1 strC pv ps) (hs : ∀ G, SlR ⟨Try.prog, w0⟩ G (fun _ => False) 1 IRow.cells ov rows) (hq : ∀ x ∈ rows, ∀ G, SlR ⟨Try.prog, w0⟩ G (fun _ => False) 1 intC x.val x.xs)
    (hk : ∀ n' H', K (.bool true) n' H') : ACall ⟨Try.prog, w0⟩ 8 [.agg #[.string nm, pv, .int .i64 dead], .int .i64 now, ov] K n H := by
  have hpc := (hp H).cells
  have hsc := (hs H).cells
  refine ACall.code Try.func8 rfl Try.ntmps8 Try.results8 (by simp) fun J0 => ?_
  refine AW.ev ?_
  simp (disch := omega) [-hset_if, -Bool.decide_and, hset_ne, hpc, hsc]
  refine awake_p ?_
  simp (disch := omega) [-hset_if, -Bool.decide_and, hset_ne, hpc, hsc]
  refine fits_ok (hp _) (hs _) (fun x hx => hq x hx _) (fun _ h => h.elim) (fun _ h => h.elim) ?_
  simp (disch := omega) [-hset_if, -Bool.decide_and, hset_ne]
  refine cif_var (fun c1 => ?_) (fun c1 => ?_)
  rotate_left
  · simp (disch := omega) [-hset_if, -Bool.decide_and, hset_ne]
    refine Fin_id (hk _ _)
  have hf := fitsB_iff.1 c1
  obtain ⟨hf1, hf2⟩ := hf
  have hx : ∀ x ∈ rows, x.xs.length = ps.length := fun x hx => by
    have := List.all_eq_true.1 hf2 x.xs (List.mem_map_of_mem hx)
    simp [rowB] at this; exact this.1
  have hg0 : Good ps.length now 0 ⟨-1, now⟩ := ⟨by simp, by simp only; omega, by simp only; omega, by simp⟩
  have hrl : rows.length ≤ 40 := by have := hf1.2.2.2.2.2; simpa using this
  obtain ⟨l, hl⟩ := runS_some (np := ps.length) (dead := dead) (now := now) (by omega) (by omega) ⟨by omega, by omega⟩ (rows.map (·.xs)) 0 ⟨-1, now⟩ hg0 (by simp; omega) hf2
  obtain ⟨e1, e2⟩ := runS_at (by omega) _ 0 ⟨-1, now⟩ l hg0 hf2 hl
  have e3 := brk_none (by omega) _ 0 ⟨-1, now⟩ l 0 false hg0 hf2 hl (by simp) (by simp)
  simp (disch := omega) [-hset_if, -Bool.decide_and, hset_ne, hpc, hsc]
  refine runG_ok (hp _) (hs _) (fun x hx => hq x hx _) (fun _ h => h.elim) (fun _ h => h.elim) (by omega) (by omega) hrl (fun x h => by have := hx x h; omega) ?_
  intro n1 H1 v F a1 a2 a3 a4 a5
  have O := a4 l hl
  have g4 : H1 n = .cells [.string nm, pv, .int .i64 dead] 24 1 := by rw [a2 n (by omega)]; simp (disch := omega) [-hset_if, -Bool.decide_and, hset_ne]
  rw [hl]
  clear a4 a5
  have hvc := O.sl.cells
  have e1' : l.length = rows.length := by simpa using e1
  simp (disch := omega) [-hset_if, -Bool.decide_and, hset_ne, g4, hpc, hvc]
  refine Breaks_p (hp _) O.sl O.lt (by omega) ?_
  rw [e3]
  simp (disch := omega) [-hset_if, -Bool.decide_and, hset_ne]
  refine AW.while (σ := Nat × Int) (fun s => l.length - s.1) (fun s => [(1, .int .i64 now), (2, ov), (3, .pointer (some ⟨new n, 0, none⟩)), (7, v), (9, .int .i64 s.2), (10, .int .i64 s.1)])
    (fun s n2 H2 => n2 = n1 ∧ H2 = H1 ∧ s.1 ≤ l.length ∧ s.2 = (if s.1 = 0 then now else (at_ l ((s.1 : Int) - 1)).left)) (0, now) ?_ ?_ ?_
  · simp (disch := omega) [-hset_if, -Bool.decide_and, hset_ne]
  · exact ⟨rfl, rfl, by omega, by simp⟩
  rintro ⟨j, last⟩ n2 H2 ⟨rfl, rfl, g1, g2⟩
  dsimp only at g1 g2 ⊢
  have hov := hs H2
  have hpl := (hp H2).lenK
  simp (disch := omega) [-hset_if, -Bool.decide_and, hset_ne, O.sl.lenK]
  refine cif_dec (fun h => ?_) (fun h => ?_)
  · obtain ⟨hS, hG, -⟩ := e2 j h
    rw [at_map (by omega)] at hS
    have hx1 : at_ rows (j : Int) ∈ rows := at_mem (by omega)
    have hrow := hq _ hx1 H2
    have hxl := hx _ hx1
    have c0 : prevS ⟨-1, now⟩ l j = if j = 0 then ⟨-1, now⟩ else at_ l ((j : Int) - 1) := rfl
    generalize prevS ⟨-1, now⟩ l j = p at hS hG c0
    obtain ⟨s1, s2, s3, s4, s5⟩ := hS
    obtain ⟨t1, t2, t3, t4⟩ := hG
    have hlast : last = p.left := by rw [g2, c0]; split <;> rfl
    have hjl : (j : Int) < rows.length := by omega
    have hon : -1 ≤ (at_ l (j : Int)).on ∧ (at_ l (j : Int)).on < ps.length := by omega
    clear g2
    simp (disch := omega) [-hset_if, -Bool.decide_and, hset_ne, O.sl.ix elemS61, O.sl.load shp3, O.sl.load0 shp3, g4, hpl, hov.ix elemS58, hov.load0 shp60]
    repeat' (first | (with_reducible intro _; first | (exfalso; omega) | (simp (disch := omega) [-hset_if, -Bool.decide_and, hset_ne, O.sl.ix elemS61, O.sl.load shp3, O.sl.load0 shp3, g4, hpl, hov.ix elemS58, hov.load0 shp60, hrow.ix elemS60, hrow.load0 shp3]) | skip) | with_reducible apply cif_dec | with_reducible apply cif_beq | with_reducible apply cif_bne | with_reducible apply cif_var | with_reducible apply gif_dec | with_reducible apply gif_ndec | with_reducible apply gif_beq | with_reducible apply gif_bne | with_reducible apply gif_nbeq | with_reducible apply gif_var)
    all_goals clear hl e2 e3 hov hrow e1 hq hp hs hx hf2 c1 O hpl g4
    all_goals first | (refine Next.mk (_, _) ?_ ⟨rfl, rfl, rfl, rfl, rfl, rfl, trivial⟩ ⟨rfl, rfl, ?_, ?_⟩) | exfalso
    all_goals first | omega | (simp only; omega) | skip
    all_goals try (simp only; rw [if_neg (by omega), show ((j + 1 : Nat) : Int) - 1 = j from by omega])
    all_goals grind
  · simp (disch := omega) [-hset_if, -Bool.decide_and, hset_ne]
    refine Fin_id (hk _ _)
end Go.Aw.S15
