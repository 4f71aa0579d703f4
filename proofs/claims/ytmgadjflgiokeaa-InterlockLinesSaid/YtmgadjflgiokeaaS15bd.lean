/-
  Chapter 15: InterlockLines.
-/
import Derived.Test.YtmgadjflgiokeaaS15bc
import Derived.Test.YtmgadjflgiokeaaS15t
namespace Go.Aw.S15
open Go.RowKit Go.Proofs Go.Aw.Tab
set_option linter.unusedSimpArgs false
set_option linter.unusedVariables false
set_option maxRecDepth 10000
set_option maxHeartbeats 2000000
set_option pp.deepTerms false
set_option pp.deepTerms.threshold 4
set_option pp.maxSteps 1500
attribute [local simp] Tok.cells
variable {w0 : World} {n : Nat} {H : Heap} {K : Value → Nat → Heap → Prop}
variable {tv pv : Value} {ts : List Tok} {ps : List ByteArray} {nm : ByteArray} {dd lat : Int} {hd : Bool}
theorem sameB_refl : sameB nm dd ps nm dd ps = true := decide_eq_true ⟨rfl, rfl, rfl⟩
theorem lineE_01 : lineE nm dd ps = 0 ∨ lineE nm dd ps = 1 := by unfold lineE; split <;> simp
theorem line_num : ∀ t ∈ lineP nm dd ps, int64 t.num := by
  unfold lineP
  split
  · exact lineT_num (by unfold mnI mxI; split <;> split <;> omega)
  · simp
theorem line_len : (lineP nm dd ps).length ≤ ps.length + 5 := by
  unfold lineP
  split
  · simp [lineT, headT]
  · simp
theorem rl_len {nm : ByteArray} {dd : Int} {hd : Bool} {kn : Nat} : ∀ (m i : Nat) (ps : List ByteArray), ps.length ≤ 16 → ∀ nm dd, (rl ts lat hd kn m i nm dd ps).ps.length ≤ 16
  | 0, i, ps, h, nm, dd => by
    rw [rl]; unfold finL errL; split
    · simp
    · split
      · simp
      · exact h
  | m + 1, i, ps, h, nm, dd => by
    have ih := fun q h nm dd => rl_len (nm := nm) (dd := dd) (hd := hd) (kn := kn) m (i + 1) q h nm dd
    rw [rl]
    repeat' split
    all_goals first | exact ih _ h _ _ | (simp [errL]; done) | skip
    · unfold finL errL; split
      · simp
      · split
        · simp
        · exact h
    · exact ih _ (by simp; omega) _ _
theorem load_len {hd : Bool} {kn : Nat} : (loadP ts lat hd kn).ps.length ≤ 16 := by
  rw [loadP_rl (Nat.le_refl _)]
  exact rl_len (nm := e0) (dd := 0) _ _ _ (by simp) _ _
theorem lines_ok {A : Option Addr} {kn c : Nat} (hs : ∀ G, SlR ⟨Try.prog, w0⟩ G (fun _ => False) 4 Tok.cells tv ts) (hq : ∀ t ∈ ts, int64 t.num) (hp : ∀ G, SlR ⟨Try.prog, w0⟩ G (fun _ => False) 1 strC pv ps)
    (hk : ∀ n' H', K (.bool true) n' H') : ACall ⟨Try.prog, w0⟩ 4 [.agg #[tv, .bool hd, .slice A kn c, .int .i64 lat], .agg #[.string nm, pv, .int .i64 dd]] K n H := by
  have hsc := (hs H).cells
  have hso := (hs H).one
  have hpc := (hp H).cells
  have hpo := (hp H).one
  have hsl := (hs H).lenK
  have hpl := (hp H).lenK
  refine ACall.code Try.func4 rfl Try.ntmps4 Try.results4 (by simp) fun J0 => ?_
  refine AW.ev ?_
  simp (disch := omega) [-hset_if, -Bool.decide_and, hset_ne, hsc, hpc]
  refine awake_p ?_
  simp (disch := omega) [-hset_if, -Bool.decide_and, hset_ne, hsc, hpc, hsl, hpl]
  refine gif_dec (fun c1 => ?_) (fun c1 => ?_)
  · simp (disch := omega) [-hset_if, -Bool.decide_and, hset_ne]
    refine Fin_id (hk _ _)
  simp (disch := omega) [-hset_if, -Bool.decide_and, hset_ne, hsc, hpc, hsl, hpl]
  refine gif_dec (fun c2 => ?_) (fun c2 => ?_)
  · simp (disch := omega) [-hset_if, -Bool.decide_and, hset_ne]
    refine Fin_id (hk _ _)
  simp (disch := omega) [-hset_if, -Bool.decide_and, hset_ne, hsc, hpc, hsl, hpl]
  refine cif_dec (fun c3 => ?_) (fun c3 => ?_)
  · simp (disch := omega) [-hset_if, -Bool.decide_and, hset_ne]
    refine Fin_id (hk _ _)
  simp (disch := omega) [-hset_if, -Bool.decide_and, hset_ne]
  obtain ⟨G, hG⟩ : ∃ G, G = hset (n + 1) (.cells [.string nm, pv, .int .i64 dd] 24 1) (hset n (.cells [tv, .bool hd, .slice A kn c, .int .i64 lat] 47 1) H) := ⟨_, rfl⟩
  have q0 : G n = .cells [tv, .bool hd, .slice A kn c, .int .i64 lat] 47 1 := by rw [hG]; simp (disch := omega) [-hset_if, -Bool.decide_and, hset_ne]
  have q1 : G (n + 1) = .cells [.string nm, pv, .int .i64 dd] 24 1 := by rw [hG]; simp (disch := omega) [-hset_if, -Bool.decide_and, hset_ne]
  rw [← hG]
  clear hG
  refine AW.while (σ := Nat) (fun j => ts.length - j) (fun j => [(2, .pointer (some ⟨new n, 0, none⟩)), (3, .pointer (some ⟨new (n + 1), 0, none⟩)), (5, .int .i64 j)]) (fun j n1 H1 => n1 = n + 2 ∧ H1 = G) 0 ?_ ?_ ?_
  · simp (disch := omega) [-hset_if, -Bool.decide_and, hset_ne]
  · exact ⟨rfl, rfl⟩
  rintro j n1 H1 ⟨rfl, rfl⟩
  simp (disch := omega) [-hset_if, -Bool.decide_and, hset_ne, q0, hsl]
  refine cif_dec (fun h1 => ?_) (fun h1 => ?_)
  · simp (disch := omega) [-hset_if, -Bool.decide_and, hset_ne, q0, (hs H1).ix elemS44, (hs H1).load shp9]
    refine cif_dec (fun h2 => ?_) (fun h2 => ?_)
    · simp (disch := omega) [-hset_if, -Bool.decide_and, hset_ne]
      refine Fin_id (hk _ _)
    · simp (disch := omega) [-hset_if, -Bool.decide_and, hset_ne]
      exact Next.mk (j + 1) (by first | omega | (dsimp only; omega)) (by simp (disch := omega) [-hset_if, -Bool.decide_and, hset_ne]) ⟨rfl, rfl⟩
  simp (disch := omega) [-hset_if, -Bool.decide_and, hset_ne]
  refine AW.while (σ := Nat) (fun j => ps.length - j) (fun j => [(2, .pointer (some ⟨new n, 0, none⟩)), (3, .pointer (some ⟨new (n + 1), 0, none⟩)), (6, .int .i64 j)]) (fun j n1 H2 => n1 = n + 2 ∧ H2 = H1) 0 ?_ ?_ ?_
  · simp (disch := omega) [-hset_if, -Bool.decide_and, hset_ne]
  · exact ⟨rfl, rfl⟩
  rintro k n1 H1 ⟨rfl, rfl⟩
  simp (disch := omega) [-hset_if, -Bool.decide_and, hset_ne, q1, hpl]
  refine cif_dec (fun h3 => ?_) (fun h3 => ?_)
  · simp (disch := omega) [-hset_if, -Bool.decide_and, hset_ne, q1, (hp H1).ix elemS22, (hp H1).load0 shp9, strC]
    refine cif_dec (fun h4 => ?_) (fun h4 => ?_)
    · simp (disch := omega) [-hset_if, -Bool.decide_and, hset_ne]
      refine Fin_id (hk _ _)
    · simp (disch := omega) [-hset_if, -Bool.decide_and, hset_ne]
      exact Next.mk (k + 1) (by first | omega | (dsimp only; omega)) (by simp (disch := omega) [-hset_if, -Bool.decide_and, hset_ne]) ⟨rfl, rfl⟩
  obtain ⟨x, hx⟩ : ∃ x, x = loadP ts lat hd kn := ⟨_, rfl⟩
  simp (disch := omega) [-hset_if, -Bool.decide_and, hset_ne, q0, hsc]
  refine Load_ok (hs _) (fun _ h => h.elim) (by omega) hq ?_
  intro n1 G1 v1 E1 a1 a2 a3 a4
  rw [← hx] at a4 ⊢
  have r0 : G1 n = .cells [tv, .bool hd, .slice A kn c, .int .i64 lat] 47 1 := by rw [a2 n (by omega)]; exact q0
  have r1 : G1 (n + 1) = .cells [.string nm, pv, .int .i64 dd] 24 1 := by rw [a2 _ (by omega)]; exact q1
  clear a2 q0 q1
  have w1 := a4.sl.cells
  have w1' := a4.sl.one
  simp (disch := omega) [-hset_if, -Bool.decide_and, hset_ne, loadV, w1, w1', r0, hsc]
  refine LoadR_ok (hs _) (fun _ h => h.elim) (by omega) ?_
  intro n2 G2 v2 E2 b1 b2 b3 b4
  rw [← hx] at b4 ⊢
  have s1 : G2 (n + 1) = .cells [.string nm, pv, .int .i64 dd] 24 1 := by rw [b2 _ (by omega)]; simp (disch := omega) [-hset_if, -Bool.decide_and, hset_ne, r1]
  have t1 : G2 n1 = .cells [.string x.nm, v1, .int .i64 x.dd] 24 1 := by rw [b2 _ (by omega)]; simp (disch := omega) [-hset_if, -Bool.decide_and, hset_ne]
  have t2 : G2 (n1 + 1) = .cells [.int .i64 x.code, .int .i64 x.line, .int .i64 x.col] 51 1 := by rw [b2 _ (by omega)]; simp (disch := omega) [-hset_if, -Bool.decide_and, hset_ne]
  have a5 : OwR ⟨Try.prog, w0⟩ G2 n2 E1 9 1 strC v1 x.ps := a4.frame (by omega) (fun i hi => by have := a4.lt i hi; rw [b2 i (by omega)]; simp (disch := omega) [-hset_if, -Bool.decide_and, hset_ne])
  have lt1 : ∀ i, E1 i → i < n2 := a5.lt
  clear b2 a4 r0 r1
  have w2 := b4.sl.cells
  have w2' := b4.sl.one
  simp (disch := omega) [-hset_if, -Bool.decide_and, hset_ne, loadV, w2, w2', t1, t2, w1, w1']
  have hxl : x.ps.length ≤ 16 := by rw [hx]; exact load_len
  refine Same_p (D := E1) (E := E2) (a5.sl.frame (fun i hi => by have := lt1 i hi; simp (disch := omega) [-hset_if, -Bool.decide_and, hset_ne])) (b4.sl.frame (fun i hi => by have := b4.lt i hi; simp (disch := omega) [-hset_if, -Bool.decide_and, hset_ne])) (fun i hi => by have := lt1 i hi; omega) (fun i hi => by have := b4.lt i hi; omega) (by omega) ?_
  rw [sameB_refl]
  simp (disch := omega) [-hset_if, -Bool.decide_and, hset_ne, s1, hpc]
  refine Line_ok (hp _) (fun _ h => h.elim) (by omega) ?_
  intro n3 G3 v3 E3 d1 d2 d3 d4
  have u1 : G3 (n + 1) = .cells [.string nm, pv, .int .i64 dd] 24 1 := by rw [d2 _ (by omega)]; simp (disch := omega) [-hset_if, -Bool.decide_and, hset_ne, s1]
  have w3 := d4.sl.cells
  have w3' := d4.sl.one
  clear d2 s1 t1 t2 a5 b4
  obtain ⟨L, hL⟩ : ∃ L, L = lineP nm dd ps := ⟨_, rfl⟩
  have hLn : ∀ t ∈ L, int64 t.num := by rw [hL]; exact line_num
  have hLl : L.length ≤ 45 := by have := @line_len ps nm dd; rw [hL]; omega
  rw [← hL] at d4
  simp (disch := omega) [-hset_if, -Bool.decide_and, hset_ne, u1, hpc, w3, w3']
  refine LineR_ok (hp _) (fun _ h => h.elim) (by omega) ?_
  intro n4 G4 v4 E4 f1 f2 f3 f4
  rw [← hL] at f4
  have x1 : G4 (n + 1) = .cells [.string nm, pv, .int .i64 dd] 24 1 := by rw [f2 _ (by omega)]; simp (disch := omega) [-hset_if, -Bool.decide_and, hset_ne, u1]
  have x2 : G4 n3 = .cells [v3, .bool false, .slice none 0 0, .int .i64 0] 47 1 := by rw [f2 _ (by omega)]; simp (disch := omega) [-hset_if, -Bool.decide_and, hset_ne]
  have d5 : OwR ⟨Try.prog, w0⟩ G4 n4 E3 49 4 Tok.cells v3 L := d4.frame (by omega) (fun i hi => by have := d4.lt i hi; rw [f2 i (by omega)]; simp (disch := omega) [-hset_if, -Bool.decide_and, hset_ne])
  have w4 := f4.sl.cells
  have w4' := f4.sl.one
  clear f2 u1 d4
  obtain ⟨e, he⟩ : ∃ e, e = lineE nm dd ps := ⟨_, rfl⟩
  rw [← he]
  simp (disch := omega) [-hset_if, -Bool.decide_and, hset_ne, x1, x2, w3, w3', w4, w4', d5.sl.lenK, f4.sl.lenK]
  have d6 : ∀ o, SlR ⟨Try.prog, w0⟩ (hset n4 o G4) E3 4 Tok.cells v3 L := fun o => d5.sl.frame (fun i hi => by have := d5.lt i hi; simp (disch := omega) [-hset_if, -Bool.decide_and, hset_ne])
  have f6 : ∀ o, SlR ⟨Try.prog, w0⟩ (hset n4 o G4) E4 4 Tok.cells v4 L := fun o => f4.sl.frame (fun i hi => by have := f4.lt i hi; simp (disch := omega) [-hset_if, -Bool.decide_and, hset_ne])
  obtain ⟨G5, hG5⟩ : ∃ G5, G5 = hset n4 (.cells [v4, .bool false, .slice none 0 0, .int .i64 0] 47 1) G4 := ⟨_, rfl⟩
  have y1 : G5 (n + 1) = .cells [.string nm, pv, .int .i64 dd] 24 1 := by rw [hG5]; simp (disch := omega) [-hset_if, -Bool.decide_and, hset_ne, x1]
  have y2 : G5 n3 = .cells [v3, .bool false, .slice none 0 0, .int .i64 0] 47 1 := by rw [hG5]; simp (disch := omega) [-hset_if, -Bool.decide_and, hset_ne, x2]
  have y3 : G5 n4 = .cells [v4, .bool false, .slice none 0 0, .int .i64 0] 47 1 := by rw [hG5]; simp (disch := omega) [-hset_if, -Bool.decide_and, hset_ne]
  have d7 : SlR ⟨Try.prog, w0⟩ G5 E3 4 Tok.cells v3 L := by rw [hG5]; exact d6 _
  have f7 : SlR ⟨Try.prog, w0⟩ G5 E4 4 Tok.cells v4 L := by rw [hG5]; exact f6 _
  have lt3 : ∀ i, E3 i → i < n4 := d5.lt
  rw [← hG5]
  clear hG5 d6 f6 x1 x2
  refine AW.while (σ := Nat) (fun j => L.length - j) (fun j => [(3, .pointer (some ⟨new (n + 1), 0, none⟩)), (11, .pointer (some ⟨new n3, 0, none⟩)), (12, .int .i64 e), (13, .pointer (some ⟨new n4, 0, none⟩)), (15, .int .i64 j)]) (fun j n5 H5 => n5 = n4 + 1 ∧ H5 = G5) 0 ?_ ?_ ?_
  · simp (disch := omega) [-hset_if, -Bool.decide_and, hset_ne]
  · exact ⟨rfl, rfl⟩
  rintro p n5 H5 ⟨rfl, rfl⟩
  simp (disch := omega) [-hset_if, -Bool.decide_and, hset_ne, y2, d7.lenK]
  refine cif_dec (fun h5 => ?_) (fun h5 => ?_)
  · simp (disch := omega) [-hset_if, -Bool.decide_and, hset_ne]
    refine AW.draw (X := ⟨_, 154, _, _⟩) (id := 26) mixed (.take 0 <| .take 1 <| .take 2 <| .take 3 <| .take 4 <| .take 5 <| .take 6 <| .take 7 <| .take 8 <| .take 9 <| .take 10 <| .done) (by kernel_rfl) ?_
    simp (disch := omega) [-hset_if, -Bool.decide_and, hset_ne, y2, y3, d7.ix elemS44, d7.load0 shp49, f7.ix elemS44, f7.load0 shp49]
    exact Next.mk (p + 1) (by first | omega | (dsimp only; omega)) (by simp (disch := omega) [-hset_if, -Bool.decide_and, hset_ne]) ⟨rfl, rfl⟩
  simp (disch := omega) [-hset_if, -Bool.decide_and, hset_ne]
  refine cif_bne (fun h6 => ?_) (fun h6 => ?_)
  · have hcode : (loadP (lineT nm dd ps) 0 false 0).code = 0 := by
      have := he
      rw [h6] at this
      unfold lineE at this
      split at this
      · assumption
      · omega
    have hLT : L = lineT nm dd ps := by rw [hL, lineP, if_pos hcode]
    simp (disch := omega) [-hset_if, -Bool.decide_and, hset_ne, y2, w3]
    refine Load_ok (A := none) (kn := 0) (c := 0) d7 (fun i hi => by have := lt3 i hi; omega) (by omega) hLn ?_
    rw [hLT, line_ok hcode]
    intro n6 G6 v6 E6 z1 z2 z3 z4
    have w6 := z4.sl.cells
    have w6' := z4.sl.one
    have y4 : G6 (n + 1) = .cells [.string nm, pv, .int .i64 dd] 24 1 := by rw [z2 _ (by omega)]; exact y1
    simp (disch := omega) [-hset_if, -Bool.decide_and, hset_ne, loadV, w6, w6', y4, hpc]
    refine Same_p (D := E6) (z4.sl.frame (fun i hi => by have := z4.lt i hi; simp (disch := omega) [-hset_if, -Bool.decide_and, hset_ne])) (hp _) (fun i hi => by have := z4.lt i hi; omega) (fun _ h => h.elim) (by simp only; omega) ?_
    rw [sameB_refl]
    simp (disch := omega) [-hset_if, -Bool.decide_and, hset_ne]
    refine Fin_id (hk _ _)
  · simp (disch := omega) [-hset_if, -Bool.decide_and, hset_ne]
    refine Fin_id (hk _ _)
end Go.Aw.S15
