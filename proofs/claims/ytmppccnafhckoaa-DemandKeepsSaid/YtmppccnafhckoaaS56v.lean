/-
  Chapter 56: the statement DemandKeeps.
-/
import Derived.Test.YtmppccnafhckoaaS56n
import Derived.Test.YtmppccnafhckoaaS56r
namespace Go.Aw.S56
open Go.RowKit Go.Proofs Go.Aw.Tab
set_option linter.unusedSimpArgs false
set_option linter.unusedVariables false
set_option maxRecDepth 10000
set_option maxHeartbeats 2000000
set_option pp.deepTerms false
set_option pp.deepTerms.threshold 4
set_option pp.maxSteps 1500
attribute [local simp] Load.cells Sta.cells intC Num.cells range_get
variable {w0 : World} {n : Nat} {H : Heap} {K : Value → Nat → Heap → Prop} {pv sv ov bv mv gv : Value} {D E F G1 G2 : Nat → Prop} {l : List Load} {s : List Sta} {bs ms gs : List Int} {base limit now : Int}
theorem pwV_fine (h : chk l = 0) (hq : s.length = l.length) : pwV l s = (pwS l s, 0) := by unfold pwV; rw [if_neg (by simp [h]), if_neg (by simp [hq])]
theorem whileA {X : Aw.Cx} {Q : Post} {fr : Fr} {σ : Type} (m : σ → Nat) (F : σ → Fr) (I : σ → Nat → Heap → Prop) (s0 : σ) {c : Code} (hF : FrLe (F s0) fr) (h0 : I s0 n H)
    (round : ∀ s n H, I s n H → AW X c (thenP (Next m F I s) Q) n (F s) H) : AW X (.loop c) Q n fr H := by
  refine AW.loop (fun k n fr H => ∃ s, m s = k ∧ FrLe (F s) fr ∧ I s n H) (m s0) ⟨s0, rfl, hF, h0⟩ ?_
  rintro k n fr H ⟨s, rfl, hl, hI⟩
  refine AW.le hl (AW.mono (round s n H hI) ?_)
  intro e n' fr' H' h
  cases e <;> first | (obtain ⟨s', h1, h2, h3⟩ := h; exact ⟨m s', h1, s', rfl, h2, h3⟩) | exact h
theorem keepsLaw_ok (hs : SlR ⟨Try.prog, w0⟩ H D 5 Load.cells pv l) (hD : ∀ i, D i → i < n) (ht : SlR ⟨Try.prog, w0⟩ H E 2 Sta.cells sv s) (hE : ∀ i, E i → i < n) (hbs : SlR ⟨Try.prog, w0⟩ H F 1 intC bv bs) (hF : ∀ i, F i → i < n) (hms : SlR ⟨Try.prog, w0⟩ H G1 1 intC mv ms) (hG1 : ∀ i, G1 i → i < n) (hgs : SlR ⟨Try.prog, w0⟩ H G2 1 intC gv gs) (hG2 : ∀ i, G2 i → i < n)
    (hr : Res n H K (.bool true)) : ACall ⟨Try.prog, w0⟩ 7 [pv, sv, bv, mv, .int .i64 now, gv] K n H := by
  have hU : ∀ i, i < n → H i = H i := fun _ _ => rfl
  refine ACall.run Try.func7 rfl Try.ntmps7 Try.results7 (by simp) fun J0 => ?_
  simp (disch := omega) [-hset_if, -Bool.decide_and, hset_ne, hs.lenK]
  refine gif_dec (fun a1 => ?_) (fun a1 => ?_)
  · simp (disch := omega) [-hset_if, -Bool.decide_and, hset_ne]
    refine awake_ok ?_
    simp (disch := omega) [-hset_if, -Bool.decide_and, hset_ne]
    exact hr.fin rfl (by omega) hU
  simp (disch := omega) [-hset_if, -Bool.decide_and, hset_ne, hbs.lenK]
  refine gif_dec (fun a2 => ?_) (fun a2 => ?_)
  · simp (disch := omega) [-hset_if, -Bool.decide_and, hset_ne]
    refine awake_ok ?_
    simp (disch := omega) [-hset_if, -Bool.decide_and, hset_ne]
    exact hr.fin rfl (by omega) hU
  simp (disch := omega) [-hset_if, -Bool.decide_and, hset_ne, hbs.lenK, hms.lenK]
  refine gif_bne (fun a3 => ?_) (fun a3 => ?_)
  rotate_left
  · simp (disch := omega) [-hset_if, -Bool.decide_and, hset_ne]
    refine awake_ok ?_
    simp (disch := omega) [-hset_if, -Bool.decide_and, hset_ne]
    exact hr.fin rfl (by omega) hU
  simp (disch := omega) [-hset_if, -Bool.decide_and, hset_ne, hs.lenK, ht.lenK]
  refine cif_bne (fun a4 => ?_) (fun a4 => ?_)
  rotate_left
  · simp (disch := omega) [-hset_if, -Bool.decide_and, hset_ne]
    refine awake_ok ?_
    simp (disch := omega) [-hset_if, -Bool.decide_and, hset_ne]
    exact hr.fin rfl (by omega) hU
  clear hU
  have hb : l.length < 4611686018427387904 := by omega
  simp (disch := omega) [-hset_if, -Bool.decide_and, hset_ne]
  refine ours_ok ht hE (by omega) ?_
  intro v1 n1 H1 E1 f1 f2 f3 f4
  simp (disch := omega) [-hset_if, -Bool.decide_and, hset_ne]
  refine whileA (σ := Nat × Int × Value × List Sta) (fun p => bs.length - p.1) (fun p => [(0, pv), (2, bv), (3, mv), (4, .int .i64 p.2.1), (5, gv), (13, p.2.2.1), (14, .int .i64 (p.1 : Int))])
    (fun p n1 H1 => n ≤ n1 ∧ (∀ i, i < n → H1 i = H i) ∧ p.1 ≤ bs.length ∧ p.2.2.2.length = l.length ∧ ∃ E, (∀ i, E i → n ≤ i ∧ i < n1) ∧ OwR ⟨Try.prog, w0⟩ H1 n1 E 54 2 Sta.cells p.2.2.1 p.2.2.2) (0, now, v1, s) ?_ ?_ ?_
  · simp (disch := omega) [-hset_if, -Bool.decide_and, hset_ne]
  · exact ⟨f1, f2, by simp, by dsimp only; omega, E1, f3, f4⟩
  clear f1 f2 f3 f4
  rintro ⟨j, nw, v, c⟩ n1 H1 ⟨g1, g2, g3, gl, E1, ge, g5⟩
  dsimp only at g3 gl g5 ⊢
  have hU : ∀ i, i < n → H1 i = H i := g2
  have hs1 : SlR ⟨Try.prog, w0⟩ H1 D 5 Load.cells pv l := hs.frame (fun i hi => g2 i (hD i hi))
  have hD1 : ∀ i, D i → i < n1 := fun i hi => by have := hD i hi; omega
  have hbsA : SlR ⟨Try.prog, w0⟩ H1 F 1 intC bv bs := hbs.frame (fun i hi => g2 i (hF i hi))
  have hmsA : SlR ⟨Try.prog, w0⟩ H1 G1 1 intC mv ms := hms.frame (fun i hi => g2 i (hG1 i hi))
  have hgsA : SlR ⟨Try.prog, w0⟩ H1 G2 1 intC gv gs := hgs.frame (fun i hi => g2 i (hG2 i hi))
  have g4 := ge
  refine AW.step ?_
  simp (disch := omega) [-hset_if, -Bool.decide_and, hset_ne, hbsA.lenK]
  refine cif_dec (fun h => ?_) (fun h => ?_)
  rotate_left
  · simp (disch := omega) [-hset_if, -Bool.decide_and, hset_ne]
    refine awake_ok ?_
    simp (disch := omega) [-hset_if, -Bool.decide_and, hset_ne]
    exact hr.fin rfl (by omega) hU
  have hj1 : (j : Int) < bs.length := by omega
  have hj2 : (j : Int) < ms.length := by omega
  change AW _ _ _ _ _ _
  refine AW.seq (AW.block ?_)
  refine AW.cut (σ := Int) (fun nw => [(0, pv), (2, bv), (3, mv), (4, .int .i64 nw), (5, gv), (13, v), (14, .int .i64 (j : Int))]) (fun _ n' H' => n' = n1 ∧ H' = H1) ?_ ?_
  rotate_left
  · simp (disch := omega) [-hset_if, -Bool.decide_and, hset_ne, hgsA.lenK]
    refine gif_dec (fun b1 => ?_) (fun b1 => ?_)
    rotate_left
    · simp (disch := omega) [-hset_if, -Bool.decide_and, hset_ne]
      exact Join.mk nw (by simp (disch := omega) [-hset_if, -Bool.decide_and, hset_ne]) ⟨rfl, rfl⟩
    have hj3 : (j : Int) < gs.length := by omega
    simp (disch := omega) [-hset_if, -Bool.decide_and, hset_ne, hgsA.ix elemS24, hgsA.load0 shp3, hj3]
    refine gif_dec (fun b2 => ?_) (fun b2 => ?_)
    rotate_left
    · simp (disch := omega) [-hset_if, -Bool.decide_and, hset_ne]
      exact Join.mk nw (by simp (disch := omega) [-hset_if, -Bool.decide_and, hset_ne]) ⟨rfl, rfl⟩
    simp (disch := omega) [-hset_if, -Bool.decide_and, hset_ne, hgsA.ix elemS24, hgsA.load0 shp3, hj3]
    refine cif_dec (fun b3 => ?_) (fun b3 => ?_)
    rotate_left
    · simp (disch := omega) [-hset_if, -Bool.decide_and, hset_ne]
      exact Join.mk nw (by simp (disch := omega) [-hset_if, -Bool.decide_and, hset_ne]) ⟨rfl, rfl⟩
    simp (disch := omega) [-hset_if, -Bool.decide_and, hset_ne, hgsA.ix elemS24, hgsA.load0 shp3, hj3]
    exact Join.mk (IntKind.i64.wrap (nw + at_ gs (j : Int))) (by simp (disch := omega) [-hset_if, -Bool.decide_and, hset_ne]) ⟨rfl, rfl⟩
  rintro nw n' H' ⟨rfl, rfl⟩
  refine AW.ev ?_
  simp (disch := omega) [-hset_if, -Bool.decide_and, hset_ne]
  refine AW.draw (X := ⟨_, 279, _, _⟩) (id := 9) mixed (.take 0 <| .take 1 <| .take 2 <| .take 3 <| .take 4 <| .take 5 <| .take 6 <| .take 7 <| .take 8 <| .take 9 <| .take 10 <| .each 11 [] (.take 12 <| .take 13 <| .take 14 <| .take 15 <| .take 16 <| .done) <| .stop) (by kernel_rfl) ?_
  simp (disch := omega) [-hset_if, -Bool.decide_and, hset_ne, hbsA.ix elemS45, hbsA.load0 shp2, hmsA.ix elemS45, hmsA.load0 shp2, hj1, hj2]
  refine Step_ok hb (by omega) hs1 hD1 g5.sl (fun i hi => (g4 i hi).2) ?_ ?_
  · intro n2 H2 x1 x2 x3
    have hU : ∀ i, i < n → H2 i = H i := fun i hi => by rw [x2 i (by omega), g2 i hi]
    have x3 : (chS l c nw [at_ bs (j : Int), at_ ms (j : Int)] != 0) = true := by simpa using x3
    simp (disch := omega) [-hset_if, -Bool.decide_and, hset_ne, x3]
    refine awake_ok ?_
    simp (disch := omega) [-hset_if, -Bool.decide_and, hset_ne]
    exact hr.fin rfl (by omega) hU
  intro hcS v2 n2 H2 E2 x1 x2 x3 g4'
  obtain ⟨h0, c2, c3, c4, c5⟩ := chS_spec hcS
  have hR := chk_rng h0
  have hl := chk_len h0
  obtain ⟨hlt, hlim, hP⟩ := stp_spec (s := c) (base := at_ bs (j : Int)) (limit := at_ ms (j : Int)) (now := nw) h0 c3
  generalize stp l c (at_ bs (j : Int)) (at_ ms (j : Int)) nw = t at *
  have g4 := g4'
  clear g4'
  have hs4 : SlR ⟨Try.prog, w0⟩ H2 D 5 Load.cells pv l := hs1.frame (fun i hi => x2 i (hD1 i hi))
  have hc4 : OwR ⟨Try.prog, w0⟩ H2 n2 E1 54 2 Sta.cells v c := g5.frame (by omega) (fun i hi => x2 i (ge i hi).2)
  have hbsA : SlR ⟨Try.prog, w0⟩ H2 F 1 intC bv bs := hbsA.frame (fun i hi => x2 i (by have := hF i hi; omega))
  have hmsA : SlR ⟨Try.prog, w0⟩ H2 G1 1 intC mv ms := hmsA.frame (fun i hi => x2 i (by have := hG1 i hi; omega))
  have hgsA : SlR ⟨Try.prog, w0⟩ H2 G2 1 intC gv gs := hgsA.frame (fun i hi => x2 i (by have := hG2 i hi; omega))
  have hD4 : ∀ i, D i → i < n2 := fun i hi => by have := hD i hi; omega
  simp (disch := omega) [-hset_if, -Bool.decide_and, hset_ne]
  refine Power_ok hb hs4 hD4 hc4.sl (fun i hi => by have := ge i hi; omega) ?_
  rw [pwV_fine h0 c3]
  simp (disch := omega) [-hset_if, -Bool.decide_and, hset_ne]
  refine Power_ok hb hs4 hD4 g4.sl (fun i hi => (x3 i hi).2) ?_
  rw [pwV_fine h0 hlt]
  have hlx := g4.sl.lenK
  rw [hlt] at hlx
  simp (disch := omega) [-hset_if, -Bool.decide_and, hset_ne, hlx, hs4.lenK]
  refine AW.draw (X := ⟨_, 279, _, _⟩) (id := 16) mixed (.take 0 <| .take 1 <| .take 2 <| .take 3 <| .take 4 <| .take 5 <| .take 6 <| .take 7 <| .take 8 <| .take 9 <| .take 10 <| .take 11 <| .done) (by kernel_rfl) ?_
  have hpc := pwS_b (c := c) hR hl
  have hpt := pwS_b (c := t) hR hl
  have hbb : inB (at_ bs (j : Int)) = true := by simp at c2; exact c2.1
  obtain ⟨hbb1, hbb2⟩ := inB_iff.1 hbb
  simp (disch := omega) [-hset_if, -Bool.decide_and, hset_ne, hbsA.ix elemS45, hbsA.load0 shp2, hmsA.ix elemS45, hmsA.load0 shp2, hj1, hj2]
  refine AW.while (σ := Nat) (fun k => l.length - k) (fun k => [(0, pv), (2, bv), (3, mv), (4, .int .i64 nw), (5, gv), (13, v), (14, .int .i64 (j : Int)), (15, v2), (19, .int .i64 (pwS l t)), (21, .bool (decide (at_ ms (j : Int) < at_ bs (j : Int) + pwS l c))), (22, .int .i64 (k : Int))])
    (fun k n3 H3 => n3 = n2 ∧ H3 = H2 ∧ k ≤ l.length) 0 ?_ ?_ ?_
  · simp (disch := omega) [-hset_if, -Bool.decide_and, hset_ne]
  · exact ⟨rfl, rfl, by omega⟩
  rintro k n3 H3 ⟨rfl, rfl, y1⟩
  simp (disch := omega) [-hset_if, -Bool.decide_and, hset_ne, hs4.lenK]
  refine cif_dec (fun hk => ?_) (fun hk => ?_)
  · have hkl : (k : Int) < l.length := by omega
    have hkc : (k : Int) < c.length := by omega
    have hkt : (k : Int) < t.length := by omega
    have hld := at_rng hR (j := k) (by omega)
    have hsi := c5 _ (at_mem (l := c) (j := k) (by omega))
    obtain ⟨P1, P2, P3, P4⟩ := hP k (by omega) hkl
    simp (disch := omega) [-hset_if, -Bool.decide_and, hset_ne]
    refine AW.draw (X := ⟨_, 279, _, _⟩) (id := 20) mixed (.take 0 <| .take 1 <| .take 2 <| .take 3 <| .take 4 <| .take 5 <| .take 6 <| .take 7 <| .take 8 <| .each 9 [] (.take 10 <| .done) <| .stop) (by kernel_rfl) ?_
    simp (disch := omega) [-hset_if, -Bool.decide_and, hset_ne, hs4.ix elemS22, hs4.load0 shp42, hc4.sl.ix elemS46, hc4.sl.load0 shp54, hkl, hkc, hkt]
    refine free_ok (at_ l (k : Int)) (at_ c (k : Int)) c4 hsi ?_
    simp (disch := omega) [-hset_if, -Bool.decide_and, hset_ne]
    refine AW.draw (X := ⟨_, 279, _, _⟩) (id := 21) mixed (.take 0 <| .take 1 <| .take 2 <| .take 3 <| .take 4 <| .take 5 <| .take 6 <| .take 7 <| .take 8 <| .take 9 <| .take 10 <| .take 11 <| .take 12 <| .take 13 <| .take 14 <| .take 15 <| .take 16 <| .take 17 <| .take 18 <| .take 19 <| .take 20 <| .take 21 <| .take 22 <| .take 23 <| .take 24 <| .take 25 <| .take 26 <| .take 27 <| .take 28 <| .take 29 <| .take 30 <| .take 31 <| .take 32 <| .take 33 <| .take 34 <| .take 35 <| .take 36 <| .take 37 <| .take 38 <| .take 39 <| .take 40 <| .take 41 <| .take 42 <| .take 43 <| .take 44 <| .take 45 <| .take 46 <| .take 47 <| .take 48 <| .take 49 <| .take 50 <| .take 51 <| .take 52 <| .take 53 <| .take 54 <| .take 55 <| .take 56 <| .done) (by kernel_rfl) ?_
    by_cases e : (at_ t (k : Int)).shed = (at_ c (k : Int)).shed
    · have e2 := P2 e
      simp (disch := omega) [-hset_if, -Bool.decide_and, hset_ne, g4.sl.ix elemS46, g4.sl.load shp4, g4.sl.load0 shp4, g4.sl.load0 shp54, hc4.sl.ix elemS46, hc4.sl.load shp4, hc4.sl.load0 shp4, hc4.sl.load0 shp54, hkc, hkt, e2]
      by_cases hnd : at_ ms (j : Int) < at_ bs (j : Int) + pwS l c
      · refine AW.draw (X := ⟨_, 279, _, _⟩) (id := 23) mixed (.take 0 <| .take 1 <| .take 2 <| .take 3 <| .take 4 <| .take 5 <| .take 6 <| .take 7 <| .take 8 <| .take 9 <| .take 10 <| .take 11 <| .take 12 <| .take 13 <| .take 14 <| .take 15 <| .take 16 <| .take 17 <| .take 18 <| .take 19 <| .take 20 <| .take 21 <| .take 22 <| .take 23 <| .take 24 <| .done) (by kernel_rfl) ?_
        simp (disch := omega) [-hset_if, -Bool.decide_and, hset_ne, hnd, hbsA.ix elemS45, hbsA.load0 shp2, hmsA.ix elemS45, hmsA.load0 shp2, hj1, hj2]
        refine gif_dec (fun d2 => ?_) (fun d2 => ?_)
        · simp (disch := omega) [-hset_if, -Bool.decide_and, hset_ne, g4.sl.ix elemS46, g4.sl.load shp4, g4.sl.load0 shp4, hkt]
          refine gif_var (fun d3 => ?_) (fun d3 => ?_)
          · have d4 : (at_ t (k : Int)).shed = false := by simpa using d3
            have d5 := P3 hnd d2 d4
            simp (disch := omega) [-hset_if, -Bool.decide_and, hset_ne, d5]
            refine AW.draw (X := ⟨_, 279, _, _⟩) (id := 25) mixed (.take 0 <| .take 1 <| .take 2 <| .take 3 <| .take 4 <| .take 5 <| .take 6 <| .take 7 <| .take 8 <| .take 9 <| .take 10 <| .take 11 <| .take 12 <| .take 13 <| .take 14 <| .take 15 <| .take 16 <| .take 17 <| .take 18 <| .take 19 <| .take 20 <| .take 21 <| .take 22 <| .take 23 <| .take 24 <| .take 25 <| .take 26 <| .take 27 <| .take 28 <| .take 29 <| .take 30 <| .done) (by kernel_rfl) ?_
            simp (disch := omega) [-hset_if, -Bool.decide_and, hset_ne, hnd]
            exact Next.mk (k + 1) (by first | omega | (dsimp only; omega)) (by simp (disch := omega) [-hset_if, -Bool.decide_and, hset_ne, hnd]) ⟨rfl, rfl, by omega⟩
          · simp (disch := omega) [-hset_if, -Bool.decide_and, hset_ne]
            refine AW.draw (X := ⟨_, 279, _, _⟩) (id := 25) mixed (.take 0 <| .take 1 <| .take 2 <| .take 3 <| .take 4 <| .take 5 <| .take 6 <| .take 7 <| .take 8 <| .take 9 <| .take 10 <| .take 11 <| .take 12 <| .take 13 <| .take 14 <| .take 15 <| .take 16 <| .take 17 <| .take 18 <| .take 19 <| .take 20 <| .take 21 <| .take 22 <| .take 23 <| .take 24 <| .take 25 <| .take 26 <| .take 27 <| .take 28 <| .take 29 <| .take 30 <| .done) (by kernel_rfl) ?_
            simp (disch := omega) [-hset_if, -Bool.decide_and, hset_ne, hnd]
            exact Next.mk (k + 1) (by first | omega | (dsimp only; omega)) (by simp (disch := omega) [-hset_if, -Bool.decide_and, hset_ne, hnd]) ⟨rfl, rfl, by omega⟩
        · simp (disch := omega) [-hset_if, -Bool.decide_and, hset_ne]
          refine AW.draw (X := ⟨_, 279, _, _⟩) (id := 25) mixed (.take 0 <| .take 1 <| .take 2 <| .take 3 <| .take 4 <| .take 5 <| .take 6 <| .take 7 <| .take 8 <| .take 9 <| .take 10 <| .take 11 <| .take 12 <| .take 13 <| .take 14 <| .take 15 <| .take 16 <| .take 17 <| .take 18 <| .take 19 <| .take 20 <| .take 21 <| .take 22 <| .take 23 <| .take 24 <| .take 25 <| .take 26 <| .take 27 <| .take 28 <| .take 29 <| .take 30 <| .done) (by kernel_rfl) ?_
          simp (disch := omega) [-hset_if, -Bool.decide_and, hset_ne, hnd]
          exact Next.mk (k + 1) (by first | omega | (dsimp only; omega)) (by simp (disch := omega) [-hset_if, -Bool.decide_and, hset_ne, hnd]) ⟨rfl, rfl, by omega⟩
      · refine AW.draw (X := ⟨_, 279, _, _⟩) (id := 23) mixed (.take 0 <| .take 1 <| .take 2 <| .take 3 <| .take 4 <| .take 5 <| .take 6 <| .take 7 <| .take 8 <| .take 9 <| .take 10 <| .take 11 <| .take 12 <| .take 13 <| .take 14 <| .take 15 <| .take 16 <| .take 17 <| .take 18 <| .take 19 <| .take 20 <| .take 21 <| .take 22 <| .take 23 <| .take 24 <| .done) (by kernel_rfl) ?_
        simp (disch := omega) [-hset_if, -Bool.decide_and, hset_ne, hnd]
        refine AW.draw (X := ⟨_, 279, _, _⟩) (id := 25) mixed (.take 0 <| .take 1 <| .take 2 <| .take 3 <| .take 4 <| .take 5 <| .take 6 <| .take 7 <| .take 8 <| .take 9 <| .take 10 <| .take 11 <| .take 12 <| .take 13 <| .take 14 <| .take 15 <| .take 16 <| .take 17 <| .take 18 <| .take 19 <| .take 20 <| .take 21 <| .take 22 <| .take 23 <| .take 24 <| .take 25 <| .take 26 <| .take 27 <| .take 28 <| .take 29 <| .take 30 <| .done) (by kernel_rfl) ?_
        simp (disch := omega) [-hset_if, -Bool.decide_and, hset_ne, hnd, g4.sl.ix elemS46, g4.sl.load shp4, g4.sl.load0 shp4, hkt]
        refine gif_var (fun d3 => ?_) (fun d3 => ?_)
        · simp (disch := omega) [-hset_if, -Bool.decide_and, hset_ne]
          refine gif_var (fun d4 => ?_) (fun d4 => ?_)
          · have d5 := P4 hnd d3 d4
            simp (disch := omega) [-hset_if, -Bool.decide_and, hset_ne, hbsA.ix elemS45, hbsA.load0 shp2, hmsA.ix elemS45, hmsA.load0 shp2, hj1, hj2, hs4.ix elemS22, hs4.load shp2, hs4.load0 shp2]
            refine cif_dec (fun d6 => ?_) (fun d6 => ?_)
            · exfalso; omega
            · simp (disch := omega) [-hset_if, -Bool.decide_and, hset_ne]
              exact Next.mk (k + 1) (by first | omega | (dsimp only; omega)) (by simp (disch := omega) [-hset_if, -Bool.decide_and, hset_ne, hnd]) ⟨rfl, rfl, by omega⟩
          · simp (disch := omega) [-hset_if, -Bool.decide_and, hset_ne]
            exact Next.mk (k + 1) (by first | omega | (dsimp only; omega)) (by simp (disch := omega) [-hset_if, -Bool.decide_and, hset_ne, hnd]) ⟨rfl, rfl, by omega⟩
        · simp (disch := omega) [-hset_if, -Bool.decide_and, hset_ne]
          exact Next.mk (k + 1) (by first | omega | (dsimp only; omega)) (by simp (disch := omega) [-hset_if, -Bool.decide_and, hset_ne, hnd]) ⟨rfl, rfl, by omega⟩
    · obtain ⟨e2, e3, e4⟩ := P1 e
      have e5 : (decide (at_ ms (j : Int) < at_ bs (j : Int) + pwS l c) != (at_ c (k : Int)).shed) = true := by rw [← e3]; simpa using e
      have e6 : (decide (at_ ms (j : Int) < at_ bs (j : Int) + pwS l c) == (at_ c (k : Int)).shed) = false := by rw [← e3]; simpa using e
      simp (disch := omega) [-hset_if, -Bool.decide_and, hset_ne, g4.sl.ix elemS46, g4.sl.load shp4, g4.sl.load0 shp4, g4.sl.load shp3, g4.sl.load0 shp54, hc4.sl.ix elemS46, hc4.sl.load shp4, hc4.sl.load0 shp4, hc4.sl.load0 shp54, hkc, hkt, e2, e3, e4, e5, e6]
      by_cases hnd : at_ ms (j : Int) < at_ bs (j : Int) + pwS l c
      · refine AW.draw (X := ⟨_, 279, _, _⟩) (id := 23) mixed (.take 0 <| .take 1 <| .take 2 <| .take 3 <| .take 4 <| .take 5 <| .take 6 <| .take 7 <| .take 8 <| .take 9 <| .take 10 <| .take 11 <| .take 12 <| .take 13 <| .take 14 <| .take 15 <| .take 16 <| .take 17 <| .take 18 <| .take 19 <| .take 20 <| .take 21 <| .take 22 <| .take 23 <| .take 24 <| .done) (by kernel_rfl) ?_
        simp (disch := omega) [-hset_if, -Bool.decide_and, hset_ne, hnd, hbsA.ix elemS45, hbsA.load0 shp2, hmsA.ix elemS45, hmsA.load0 shp2, hj1, hj2]
        refine gif_dec (fun d2 => ?_) (fun d2 => ?_)
        · simp (disch := omega) [-hset_if, -Bool.decide_and, hset_ne, g4.sl.ix elemS46, g4.sl.load shp4, g4.sl.load0 shp4, hkt]
          refine gif_var (fun d3 => ?_) (fun d3 => ?_)
          · exfalso
            have d4 : (at_ t (k : Int)).shed = false := by simpa using d3
            rw [e3, decide_eq_true hnd] at d4
            cases d4
          · simp (disch := omega) [-hset_if, -Bool.decide_and, hset_ne]
            refine AW.draw (X := ⟨_, 279, _, _⟩) (id := 25) mixed (.take 0 <| .take 1 <| .take 2 <| .take 3 <| .take 4 <| .take 5 <| .take 6 <| .take 7 <| .take 8 <| .take 9 <| .take 10 <| .take 11 <| .take 12 <| .take 13 <| .take 14 <| .take 15 <| .take 16 <| .take 17 <| .take 18 <| .take 19 <| .take 20 <| .take 21 <| .take 22 <| .take 23 <| .take 24 <| .take 25 <| .take 26 <| .take 27 <| .take 28 <| .take 29 <| .take 30 <| .done) (by kernel_rfl) ?_
            simp (disch := omega) [-hset_if, -Bool.decide_and, hset_ne, hnd]
            exact Next.mk (k + 1) (by first | omega | (dsimp only; omega)) (by simp (disch := omega) [-hset_if, -Bool.decide_and, hset_ne, hnd]) ⟨rfl, rfl, by omega⟩
        · simp (disch := omega) [-hset_if, -Bool.decide_and, hset_ne]
          refine AW.draw (X := ⟨_, 279, _, _⟩) (id := 25) mixed (.take 0 <| .take 1 <| .take 2 <| .take 3 <| .take 4 <| .take 5 <| .take 6 <| .take 7 <| .take 8 <| .take 9 <| .take 10 <| .take 11 <| .take 12 <| .take 13 <| .take 14 <| .take 15 <| .take 16 <| .take 17 <| .take 18 <| .take 19 <| .take 20 <| .take 21 <| .take 22 <| .take 23 <| .take 24 <| .take 25 <| .take 26 <| .take 27 <| .take 28 <| .take 29 <| .take 30 <| .done) (by kernel_rfl) ?_
          simp (disch := omega) [-hset_if, -Bool.decide_and, hset_ne, hnd]
          exact Next.mk (k + 1) (by first | omega | (dsimp only; omega)) (by simp (disch := omega) [-hset_if, -Bool.decide_and, hset_ne, hnd]) ⟨rfl, rfl, by omega⟩
      · refine AW.draw (X := ⟨_, 279, _, _⟩) (id := 23) mixed (.take 0 <| .take 1 <| .take 2 <| .take 3 <| .take 4 <| .take 5 <| .take 6 <| .take 7 <| .take 8 <| .take 9 <| .take 10 <| .take 11 <| .take 12 <| .take 13 <| .take 14 <| .take 15 <| .take 16 <| .take 17 <| .take 18 <| .take 19 <| .take 20 <| .take 21 <| .take 22 <| .take 23 <| .take 24 <| .done) (by kernel_rfl) ?_
        simp (disch := omega) [-hset_if, -Bool.decide_and, hset_ne, hnd]
        refine AW.draw (X := ⟨_, 279, _, _⟩) (id := 25) mixed (.take 0 <| .take 1 <| .take 2 <| .take 3 <| .take 4 <| .take 5 <| .take 6 <| .take 7 <| .take 8 <| .take 9 <| .take 10 <| .take 11 <| .take 12 <| .take 13 <| .take 14 <| .take 15 <| .take 16 <| .take 17 <| .take 18 <| .take 19 <| .take 20 <| .take 21 <| .take 22 <| .take 23 <| .take 24 <| .take 25 <| .take 26 <| .take 27 <| .take 28 <| .take 29 <| .take 30 <| .done) (by kernel_rfl) ?_
        simp (disch := omega) [-hset_if, -Bool.decide_and, hset_ne, hnd, g4.sl.ix elemS46, g4.sl.load shp4, g4.sl.load0 shp4, hkt]
        refine gif_var (fun d3 => ?_) (fun d3 => ?_)
        · exfalso
          rw [e3, decide_eq_false hnd] at d3
          cases d3
        · simp (disch := omega) [-hset_if, -Bool.decide_and, hset_ne]
          exact Next.mk (k + 1) (by first | omega | (dsimp only; omega)) (by simp (disch := omega) [-hset_if, -Bool.decide_and, hset_ne, hnd]) ⟨rfl, rfl, by omega⟩
  · simp (disch := omega) [-hset_if, -Bool.decide_and, hset_ne]
    refine AW.draw (X := ⟨_, 279, _, _⟩) (id := 27) mixed (.take 0 <| .take 1 <| .take 2 <| .take 3 <| .take 4 <| .take 5 <| .take 6 <| .take 7 <| .take 8 <| .take 9 <| .take 10 <| .take 11 <| .take 12 <| .take 13 <| .take 14 <| .done) (by kernel_rfl) ?_
    by_cases hnd : at_ ms (j : Int) < at_ bs (j : Int) + pwS l c
    · simp (disch := omega) [-hset_if, -Bool.decide_and, hset_ne, hnd]
      refine AW.ev ?_
      simp (disch := omega) [-hset_if, -Bool.decide_and, hset_ne]
      exact Next.mk (j + 1, nw, v2, t) (by first | omega | (dsimp only; omega)) (by simp (disch := omega) [-hset_if, -Bool.decide_and, hset_ne]) ⟨by omega, fun i hi => by rw [x2 i (by omega), g2 i hi], (by first | omega | (dsimp only; omega)), hlt, E2, fun i hi => ⟨by have := x3 i hi; omega, (x3 i hi).2⟩, g4⟩
    · simp (disch := omega) [-hset_if, -Bool.decide_and, hset_ne, hnd, hbsA.ix elemS45, hbsA.load0 shp2, hmsA.ix elemS45, hmsA.load0 shp2, hj1, hj2]
      refine cif_dec (fun d6 => ?_) (fun d6 => ?_)
      · exfalso; omega
      · simp (disch := omega) [-hset_if, -Bool.decide_and, hset_ne]
        refine AW.ev ?_
        simp (disch := omega) [-hset_if, -Bool.decide_and, hset_ne]
        exact Next.mk (j + 1, nw, v2, t) (by first | omega | (dsimp only; omega)) (by simp (disch := omega) [-hset_if, -Bool.decide_and, hset_ne]) ⟨by omega, fun i hi => by rw [x2 i (by omega), g2 i hi], (by first | omega | (dsimp only; omega)), hlt, E2, fun i hi => ⟨by have := x3 i hi; omega, (x3 i hi).2⟩, g4⟩
end Go.Aw.S56
