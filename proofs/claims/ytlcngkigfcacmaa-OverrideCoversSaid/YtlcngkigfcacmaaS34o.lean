/-
  Chapter 34: the statement OverrideCovers.
-/
import Derived.Test.YtlcngkigfcacmaaS34n
import Derived.Test.YtlcngkigfcacmaaS34j
namespace Go.Aw.S34
open Go.RowKit Go.Proofs Go.Aw.Tab
set_option linter.unusedSimpArgs false
set_option linter.unusedVariables false
set_option maxRecDepth 10000
set_option maxHeartbeats 1000000
set_option pp.deepTerms false
set_option pp.deepTerms.threshold 4
set_option pp.maxSteps 1500
attribute [local simp] Hold.cells intC range_get Pc.cells
variable {w0 : World} {n : Nat} {H : Heap} {K : Value → Nat → Heap → Prop} {s : ByteArray} {pv : Value} {D : Nat → Prop} {l : List Hold} {t fr to : Int}
structure CV where
  j : Nat
  k : Nat
  a : Int
theorem coversLaw_ok (hs : SlR ⟨Try.prog, w0⟩ H D 6 Hold.cells pv l) (hD : ∀ i, D i → i < n) (hfr : -9223372036854775808 ≤ fr) (hto : to ≤ 9223372036854775807) (hr : Res n H K (.bool true)) :
    ACall ⟨Try.prog, w0⟩ 4 [pv, .int .i64 fr, .int .i64 to, .int .i64 t] K n H := by
  refine ACall.run Try.func4 rfl Try.ntmps4 Try.results4 (by simp) fun J0 => ?_
  simp (disch := omega) [-hset_if, -Bool.decide_and, hset_ne]
  refine awake_ok ?_
  simp (disch := omega) [-hset_if, -Bool.decide_and, hset_ne]
  refine few_ok hs hD ?_
  simp (disch := omega) [-hset_if, -Bool.decide_and, hset_ne]
  refine gif_var (fun hf => ?_) (fun hf => ?_)
  · simp (disch := omega) [-hset_if, -Bool.decide_and, hset_ne]
    exact hr.fin rfl (by omega) (fun i hi => by simp (disch := omega) only [hset_ne])
  have hf : fewB l = true := by simpa using hf
  have hn := few_nm hf
  have hb := few_len hf
  simp (disch := omega) [-hset_if, -Bool.decide_and, hset_ne]
  refine cif_dec (fun h1 => ?_) (fun h1 => ?_)
  · simp (disch := omega) [-hset_if, -Bool.decide_and, hset_ne]
    exact hr.fin rfl (by omega) (fun i hi => by simp (disch := omega) only [hset_ne])
  simp (disch := omega) [-hset_if, -Bool.decide_and, hset_ne]
  refine pieces_ok hs hD hb ?_
  intro n1 H1 v E p1 p2 p3 p4
  have hs1 : SlR ⟨Try.prog, w0⟩ H1 D 6 Hold.cells pv l := hs.frame (fun i hi => p2 i (hD i hi))
  have hD1 : ∀ i, D i → i < n1 := fun i hi => by have := hD i hi; omega
  by_cases hc : chk l = 0
  rotate_left
  · have e1 : pcE l fr to = chk l := if_neg hc
    rw [e1]
    simp (disch := omega) [-hset_if, -Bool.decide_and, hset_ne]
    refine cif_bne (fun h2 => ?_) (fun h2 => ?_)
    · exact absurd h2 hc
    simp (disch := omega) [-hset_if, -Bool.decide_and, hset_ne]
    refine check_ok hs1 hD1 hb ?_
    simp (disch := omega) [-hset_if, -Bool.decide_and, hset_ne]
    exact hr.fin rfl (by omega) p2
  have e1 : pcE l fr to = 0 := by unfold pcE; rw [if_pos hc, if_neg h1]
  rw [e1]
  have h64 := chk_len hc
  obtain ⟨T, hT1, hT2, hT3⟩ : ∃ T, pcP l fr to = T ∧ rpF l to 200 fr = T ∧ Cmp l to 200 fr := by
    by_cases h2 : fr < to
    · have := pcP_rp hc h2 (k := 200) (by omega)
      exact ⟨_, rfl, this.1.symm, this.2⟩
    · exact ⟨[], by unfold pcP; rw [if_pos hc, if_neg h2], rpF_end h2, Cmp_end h2⟩
  rw [hT1] at p4
  have hTl : T.length ≤ 200 := by rw [← hT2]; exact rpF_len _ _
  have hv := p4.sl
  have hvl := hv.lenK
  have hA : ∀ x, atC (chk l) l x = gov l x := fun x => by rw [hc]; rfl
  clear p3 p4 hT1
  simp (disch := omega) [-hset_if, -Bool.decide_and, hset_ne]
  refine AW.while (σ := CV) (fun s => T.length - s.j) (fun s => [(0, pv), (2, .int .i64 to), (3, .int .i64 t), (9, v), (11, .int .i64 s.a), (12, .int .i64 s.j)])
    (fun s n2 H2 => n2 = n1 ∧ H2 = H1 ∧ s.j ≤ T.length ∧ fr ≤ s.a ∧ s.a ≤ to ∧ T.drop s.j = rpF l to s.k s.a ∧ Cmp l to s.k s.a ∧ (0 < s.j → s.a < to → (at_ T ((s.j : Int) - 1)).h ≠ gov l s.a)) ⟨0, 200, fr⟩ ?_ ?_ ?_
  · simp (disch := omega) [-hset_if, -Bool.decide_and, hset_ne]
  · exact ⟨rfl, rfl, by simp, by simp, by dsimp only; omega, by simp [hT2], hT3, fun h => absurd h (by simp)⟩
  clear hT2 hT3
  rintro ⟨j, k, a⟩ n2 H2 ⟨rfl, rfl, g1, g2, g3, g4, g5, g6⟩
  dsimp only at g1 g2 g3 g4 g5 g6 ⊢
  simp (disch := omega) [-hset_if, -Bool.decide_and, hset_ne, hvl]
  refine cif_dec (fun hj => ?_) (fun hj => ?_)
  rotate_left
  · rw [List.drop_of_length_le (by omega)] at g4
    have ha : ¬ a < to := by
      cases k with
      | zero => exact g5
      | succ k => intro h; rw [rpF, if_pos h] at g4; cases g4
    simp (disch := omega) [-hset_if, -Bool.decide_and, hset_ne]
    refine hr.fin ?_ (by omega) p2
    congr 1; simp; omega
  have hjl : j < T.length := by omega
  have ha : a < to := by
    refine Decidable.byContradiction fun h => ?_
    rw [rpF_end h, List.drop_eq_nil_iff] at g4; omega
  obtain ⟨k, rfl⟩ : ∃ m, k = m + 1 := by
    cases k with
    | zero => exact absurd ha g5
    | succ m => exact ⟨m, rfl⟩
  rw [drop_at hjl, rpF, if_pos ha] at g4
  obtain ⟨hat, hdr⟩ := List.cons.inj g4
  clear g4
  have g7 := g5 ha
  have hgt := nx2_gt hc ha
  have hle := nx2_le (l := l) (to := to) (a := a)
  have hq := fun x h2 h3 => gov_const hc (to := to) (a := a) (t := x) h2 h3
  have hnx : j + 1 < T.length → nxtP l a = (nx2 l to a, 0) ∧ (at_ T (j : Int)).h ≠ gov l (nx2 l to a) := fun h => by
    have h2 : nx2 l to a < to := by
      refine Decidable.byContradiction fun h2 => ?_
      rw [rpF_end h2, List.drop_eq_nil_iff] at hdr; omega
    obtain ⟨b1, b2, b3⟩ := nx2_next hc h2
    refine ⟨?_, by rw [hat]; exact fun e => b3 e.symm⟩
    rcases nxt_law hc (t := a) with ⟨c1, c2⟩ | ⟨c1, c2⟩
    · omega
    · rw [c2, b2]
  have hnx2 : nx2 l to a < to → (at_ T (j : Int)).h ≠ gov l (nx2 l to a) := fun h2 => by
    obtain ⟨b1, b2, b3⟩ := nx2_next hc h2
    rw [hat]; exact fun e => b3 e.symm
  have hlast := hq (nx2 l to a - 1) (by omega) (by omega)
  generalize hgg : gov l a = ga at *
  generalize hxx : nx2 l to a = x2 at *
  simp (disch := omega) [-hset_if, -Bool.decide_and, hset_ne]
  refine AW.draw (X := ⟨_, 165, _, _⟩) (id := 12) mixed (.take 0 <| .take 1 <| .take 2 <| .take 3 <| .take 4 <| .take 5 <| .take 6 <| .take 7 <| .take 8 <| .take 9 <| .take 10 <| .take 11 <| .take 12 <| .take 13 <| .take 14 <| .take 15 <| .take 16 <| .take 17 <| .take 18 <| .take 19 <| .take 20 <| .take 21 <| .take 22 <| .take 23 <| .take 24 <| .take 25 <| .take 26 <| .take 27 <| .take 28 <| .take 29 <| .take 30 <| .take 31 <| .take 32 <| .take 33 <| .take 34 <| .take 35 <| .take 36 <| .take 38 <| .take 39 <| .take 40 <| .take 41 <| .take 42 <| .each 37 [38, 39, 40, 41, 42] (.take 43 <| .take 44 <| .take 45 <| .take 46 <| .take 47 <| .take 48 <| .take 49 <| .take 50 <| .take 51 <| .take 52 <| .take 54 <| .take 55 <| .take 56 <| .take 57 <| .take 58 <| .each 53 [54, 55, 56, 57, 58] (.take 59 <| .take 60 <| .done) <| .stop) <| .stop) (by kernel_rfl) ?_
  simp (disch := omega) [-hset_if, -Bool.decide_and, hset_ne, hv.ix elemS25, hv.load shp3, hv.load0 shp3, hat, hjl]
  have hinv : 0 < j + 1 → x2 < to → (at_ T (((j + 1 : Nat) : Int) - 1)).h ≠ gov l x2 := fun _ h => by
    rw [show ((j + 1 : Nat) : Int) - 1 = (j : Int) by omega]; exact hnx2 h
  have hj1 : 0 < j → ((j : Int) - 1) < T.length := fun h => by omega
  repeat' (first | (with_reducible intro _; first | (exfalso; omega) | (simp (disch := omega) [-hset_if, -Bool.decide_and, hset_ne, hv.ix elemS25, hv.load shp3, hv.load0 shp3, hat, hjl]) | skip) | (with_reducible refine And.intro ?_ ?_; omega) | with_reducible apply cif_dec | with_reducible apply cif_beq | with_reducible apply cif_bne | with_reducible apply cif_var | with_reducible apply gif_dec | with_reducible apply gif_ndec | with_reducible apply gif_beq | with_reducible apply gif_bne | with_reducible apply gif_nbeq | with_reducible apply gif_var)
  all_goals
    refine at_ok hs1 hD1 hb ?_
    rw [hA, hgg]
    simp (disch := omega) [-hset_if, -Bool.decide_and, hset_ne, hv.ix elemS25, hv.load shp3, hv.load0 shp3, hat, hjl]
    refine at_ok hs1 hD1 hb ?_
    rw [hA, hlast]
    simp (disch := omega) [-hset_if, -Bool.decide_and, hset_ne, hv.ix elemS25, hv.load shp3, hv.load0 shp3, hat, hjl]
  all_goals
    refine AW.draw (X := ⟨_, 165, _, _⟩) (id := 14) mixed (.take 0 <| .take 1 <| .take 2 <| .take 3 <| .take 4 <| .take 5 <| .take 6 <| .take 7 <| .take 8 <| .take 9 <| .take 10 <| .take 11 <| .take 12 <| .take 13 <| .take 14 <| .take 15 <| .take 16 <| .take 17 <| .take 18 <| .take 20 <| .take 21 <| .take 22 <| .take 23 <| .take 24 <| .each 19 [20, 21, 22, 23, 24] (.take 25 <| .take 26 <| .done) <| .stop) (by kernel_rfl) ?_
    simp (disch := omega) [-hset_if, -Bool.decide_and, hset_ne, hv.ix elemS25, hv.load shp3, hv.load0 shp3, hat, hjl]
    repeat' (first | (with_reducible intro _; first | (exfalso; omega) | (simp (disch := omega) [-hset_if, -Bool.decide_and, hset_ne, hv.ix elemS25, hv.load shp3, hv.load0 shp3, hat, hjl]) | skip) | (with_reducible refine And.intro ?_ ?_; omega) | with_reducible apply cif_dec | with_reducible apply cif_beq | with_reducible apply cif_bne | with_reducible apply cif_var | with_reducible apply gif_dec | with_reducible apply gif_ndec | with_reducible apply gif_beq | with_reducible apply gif_bne | with_reducible apply gif_nbeq | with_reducible apply gif_var)
  all_goals try
    (refine at_ok hs1 hD1 hb ?_
     rw [hA, hq t (by omega) (by omega)]
     simp (disch := omega) [-hset_if, -Bool.decide_and, hset_ne, hv.ix elemS25, hv.load shp3, hv.load0 shp3, hat, hjl])
  -- next_ok, the end of the round
  all_goals
    refine next_ok hs1 hD1 hb ?_
    generalize hnn : nxtP l a = nn at hnx ⊢
    by_cases hj2 : j + 1 < T.length
    · obtain ⟨b1, b2⟩ := hnx hj2
      subst b1
      simp (disch := omega) [-hset_if, -Bool.decide_and, hset_ne, hv.ix elemS25, hv.load shp3, hv.load0 shp3, hat, hjl, hvl]
      repeat' (first | (with_reducible intro _; first | (exfalso; omega) | (simp (disch := omega) [-hset_if, -Bool.decide_and, hset_ne, hv.ix elemS25, hv.load shp3, hv.load0 shp3, hat, hjl, hvl]) | skip) | (with_reducible refine And.intro ?_ ?_; omega) | with_reducible apply cif_dec | with_reducible apply cif_beq | with_reducible apply cif_bne | with_reducible apply cif_var | with_reducible apply gif_dec | with_reducible apply gif_ndec | with_reducible apply gif_beq | with_reducible apply gif_bne | with_reducible apply gif_nbeq | with_reducible apply gif_var)
      all_goals exact Next.mk ⟨j + 1, k, x2⟩ (by first | omega | (dsimp only; omega)) (by simp (disch := omega) [-hset_if, -Bool.decide_and, hset_ne]) ⟨rfl, rfl, (by first | omega | (dsimp only; omega)), (by first | omega | (dsimp only; omega)), (by first | omega | (dsimp only; omega)), hdr, g7, hinv⟩
    · simp (disch := omega) [-hset_if, -Bool.decide_and, hset_ne, hv.ix elemS25, hv.load shp3, hv.load0 shp3, hat, hjl, hvl]
      repeat' (first | (with_reducible intro _; first | (exfalso; omega) | (simp (disch := omega) [-hset_if, -Bool.decide_and, hset_ne, hv.ix elemS25, hv.load shp3, hv.load0 shp3, hat, hjl, hvl]) | skip) | (with_reducible refine And.intro ?_ ?_; omega) | with_reducible apply cif_dec | with_reducible apply cif_beq | with_reducible apply cif_bne | with_reducible apply cif_var | with_reducible apply gif_dec | with_reducible apply gif_ndec | with_reducible apply gif_beq | with_reducible apply gif_bne | with_reducible apply gif_nbeq | with_reducible apply gif_var)
      all_goals exact Next.mk ⟨j + 1, k, x2⟩ (by first | omega | (dsimp only; omega)) (by simp (disch := omega) [-hset_if, -Bool.decide_and, hset_ne]) ⟨rfl, rfl, (by first | omega | (dsimp only; omega)), (by first | omega | (dsimp only; omega)), (by first | omega | (dsimp only; omega)), hdr, g7, hinv⟩
end Go.Aw.S34
