/-
  Chapter 56: the reference's Step.
-/
import Derived.Test.YtmppccnafhckoaaS56k
namespace Go.Aw.S56
open Go.RowKit Go.Proofs Go.Aw.Tab
set_option linter.unusedSimpArgs false
set_option linter.unusedVariables false
set_option maxRecDepth 10000
set_option maxHeartbeats 1000000
set_option pp.deepTerms false
set_option pp.deepTerms.threshold 4
set_option pp.maxSteps 1500
attribute [local simp] Load.cells Sta.cells intC Num.cells range_get
variable {w0 : World} {n : Nat} {H : Heap} {K : Value → Nat → Heap → Prop} {pv sv ov : Value} {D E F : Nat → Prop} {l : List Load} {s : List Sta} {o : List Int} {base limit now : Int}
theorem at_rev {xs : List Int} {j : Nat} (h : j < xs.length) : at_ xs.reverse (j : Int) = at_ xs ((xs.length : Int) - 1 - j) := by
  obtain ⟨m, hm⟩ : ∃ m : Nat, (xs.length : Int) - 1 - j = m := ⟨xs.length - 1 - j, by omega⟩
  rw [hm, at_nat (k := j) (by simpa using h), at_nat (k := m) (by omega), List.getElem_reverse]
  congr 1
  omega
theorem stepR_ok (hs : SlR ⟨Try.prog, w0⟩ H D 5 Load.cells pv l) (hD : ∀ i, D i → i < n) (ht : SlR ⟨Try.prog, w0⟩ H E 2 Sta.cells sv s) (hE : ∀ i, E i → i < n) (hR : ∀ x ∈ l, rngB x = true) (hl : l.length ≤ 64) (hq : s.length = l.length) (hn : instB now) (hI : ∀ x ∈ s, instB x.since)
    (hbs : -1000000000000 ≤ base ∧ base ≤ 1000000000000)
    (hk : ∀ v n' H' E, n ≤ n' → (∀ i, i < n → H' i = H i) → (∀ i, E i → n ≤ i ∧ i < n') → OwR ⟨Try.prog, w0⟩ H' n' E 53 2 Sta.cells v (stp l s base limit now) → K v n' H') : ACall ⟨Try.prog, w0⟩ 32 [pv, sv, .int .i64 base, .int .i64 limit, .int .i64 now] K n H := by
  obtain ⟨hb3, hb4⟩ := hbs
  refine ACall.run Try.func32 rfl Try.ntmps32 Try.results32 (by simp) fun J0 => ?_
  simp (disch := omega) [-hset_if, -Bool.decide_and, hset_ne]
  have ht0 : SlR ⟨Try.prog, w0⟩ (hset n (.cells [] 53 2) H) E 2 Sta.cells sv s := ht.frame (fun i hi => hset_ne (by have := hE i hi; omega) _ _)
  refine (OwR.empty (C := ⟨Try.prog, w0⟩) (f := Sta.cells) (T := 53) (sz := 2) (n := n + 1) (j := n) (H := hset n (.cells [] 53 2) H) (by omega) (by omega) (hset_same _ _ _)).appendS elemS44 zero53 (by simp) ht0 (fun _ _ => rfl) (by simp; omega) (by simp; omega) ?_
  intro nv n1 H1 E1 f1 f2 f3 f4 q1
  rw [List.nil_append] at q1
  have f4' : ∀ i, E1 i → i = n ∨ i = n + 1 := f4
  have hf1 : ∀ i, i < n → H1 i = H i := fun i hi => by rw [f3 i (by omega) (show ¬ i = n by omega), hset_ne (by omega)]
  simp (disch := omega) [-hset_if, -Bool.decide_and, hset_ne]
  refine orderR_ok hl (hs.frame (fun i hi => hf1 i (hD i hi))) (fun i hi => by have := hD i hi; omega) ?_
  intro ov n2 H2 E2 a1 a2 a3 a4
  have hf2 : ∀ i, i < n → H2 i = H i := fun i hi => by rw [a2 i (by omega), hf1 i hi]
  have hs2 : SlR ⟨Try.prog, w0⟩ H2 D 5 Load.cells pv l := hs.frame (fun i hi => hf2 i (hD i hi))
  have q2 : OwR ⟨Try.prog, w0⟩ H2 n2 E1 53 2 Sta.cells nv s := q1.frame (by omega) (fun i hi => a2 i (q1.lt i hi))
  have hpb := pwS_b (c := s) hR hl
  have hdis : ∀ i, E1 i → ¬ E2 i := fun i h1 h2 => by have := q1.lt i h1; have := a3 i h2; omega
  have hEn : ∀ i, E1 i → n ≤ i := fun i h1 => by have := f4' i h1; omega
  simp (disch := omega) [-hset_if, -Bool.decide_and, hset_ne]
  refine powerR_ok hs2 q2.sl hR hl hq ?_
  simp (disch := omega) [-hset_if, -Bool.decide_and, hset_ne, a4.sl.lenK]
  have hol : (ordR l).length = l.length := ordR_len
  refine cif_dec (fun h2 => ?_) (fun h2 => ?_)
  · rw [stp, if_pos h2] at hk
    simp (disch := omega) [-hset_if, -Bool.decide_and, hset_ne]
    refine AW.while (σ := Nat × List Sta) (fun p => (ordR l).length - p.1) (fun p => [(0, pv), (2, .int .i64 base), (3, .int .i64 limit), (4, .int .i64 now), (11, nv), (12, ov), (13, .int .i64 p.1)])
      (fun p n3 H3 => n3 = n2 ∧ (∀ i, ¬ E1 i → H3 i = H2 i) ∧ p.1 ≤ (ordR l).length ∧ AtS (ordR l) s p.2 p.1 ∧ OwR ⟨Try.prog, w0⟩ H3 n2 E1 53 2 Sta.cells nv p.2 ∧ shS l base limit now ((ordR l).drop p.1) p.2 = shS l base limit now (ordR l) s) (0, s) ?_ ?_ ?_
    · simp (disch := omega) [-hset_if, -Bool.decide_and, hset_ne]
    · exact ⟨rfl, fun _ _ => rfl, by simp, ⟨rfl, fun _ _ _ => rfl⟩, q2, by simp⟩
    rintro ⟨j, c⟩ n3 H3 ⟨rfl, g2, g3, g4, g5, g6⟩
    dsimp only at g3 g4 g5 g6 ⊢
    have ho3 : OwR ⟨Try.prog, w0⟩ H3 n3 E2 3 1 intC ov (ordR l) := a4.frame (by omega) (fun i hi => g2 i (fun e => hdis i e hi))
    simp (disch := omega) [-hset_if, -Bool.decide_and, hset_ne, a4.sl.lenK]
    refine cif_dec (fun h => ?_) (fun h => ?_)
    · have hki := ordR_mem.1 (at_mem (l := ordR l) (j := j) (by omega))
      have hs3 : SlR ⟨Try.prog, w0⟩ H3 D 5 Load.cells pv l := hs2.frame (fun i hi => g2 i (fun e => by have := hEn i e; have := hD i hi; omega))
      have hk1 := hki.1
      have hk2 := hki.2
      have hcl := g4.1
      have hk3 : at_ (ordR l) (j : Int) < c.length := by omega
      have hcs : at_ c (at_ (ordR l) (j : Int)) = at_ s (at_ (ordR l) (j : Int)) := g4.2 j (by omega) (by omega)
      have hpc := pwS_b (c := c) hR hl
      have hld := at_rngI hR hki
      have hsi : instB (at_ c (at_ (ordR l) (j : Int))).since := by rw [hcs]; exact hI _ (by rw [at_lt hk1 (by omega)]; exact List.getElem_mem _)
      rw [drop_at (by omega), shS] at g6
      simp (disch := omega) [-hset_if, -Bool.decide_and, hset_ne, ho3.sl.ix elemS24, ho3.sl.load0 shp3]
      generalize hkk : at_ (ordR l) (j : Int) = k at *
      refine AW.draw (X := ⟨_, 121, _, _⟩) (id := 8) mixed (.take 0 <| .take 1 <| .take 2 <| .take 5 <| .each 3 [0, 5] (.take 4 <| .take 6 <| .take 7 <| .take 8 <| .take 9 <| .take 10 <| .take 11 <| .take 12 <| .take 13 <| .take 14 <| .take 15 <| .take 16 <| .take 17 <| .take 18 <| .take 19 <| .take 20 <| .take 21 <| .take 22 <| .take 23 <| .take 24 <| .each 25 [] (.take 26 <| .done) <| .stop) <| .stop) (by kernel_rfl) ?_
      simp (disch := omega) [-hset_if, -Bool.decide_and, hset_ne]
      refine powerR_ok hs3 g5.sl hR hl (by omega) ?_
      simp (disch := omega) [-hset_if, -Bool.decide_and, hset_ne]
      refine gif_dec (fun h3 => ?_) (fun h3 => ?_)
      · simp (disch := omega) [-hset_if, -Bool.decide_and, hset_ne, g5.sl.ix elemS44, hk1, hk3, g5.sl.load shp4, g5.sl.load0 shp4]
        refine gif_var (fun hx => ?_) (fun hx => ?_)
        · have hx : (at_ c k).shed = false := by simpa using hx
          simp (disch := omega) [-hset_if, -Bool.decide_and, hset_ne, g5.sl.ix elemS44, hk1, hk2, hk3, g5.sl.load0 shp53, hs3.ix elemS22, hs3.load0 shp42]
          refine free_ok (at_ l k) (at_ c k) hn hsi ?_
          simp (disch := omega) [-hset_if, -Bool.decide_and, hset_ne]
          refine cif_var (fun h4 => ?_) (fun h4 => ?_)
          · rw [if_pos ⟨h3, hx, h4⟩] at g6
            simp (disch := omega) [-hset_if, -Bool.decide_and, hset_ne, g5.sl.ix elemS44, hk1, hk3]
            refine OwR.store0 (C := ⟨Try.prog, w0⟩) (n := n3) (D := E1) (T := 53) (f := Sta.cells) (xs := c) g5 shp53 hk1 hk3 ⟨true, now⟩ (by simp) (by simp) (by simp) ?_
            intro H4 d1 d2
            simp (disch := omega) [-hset_if, -Bool.decide_and, hset_ne]
            have hat := g4.set (v := ⟨true, now⟩) ordR_nodup (fun k hk => (ordR_mem.1 hk).1) h
            rw [hkk] at hat
            exact Next.mk (j + 1, c.set k.toNat ⟨true, now⟩) (by first | omega | (dsimp only; omega)) (by simp (disch := omega) [-hset_if, -Bool.decide_and, hset_ne]) ⟨rfl, fun i hi => by rw [d1 i hi, g2 i hi], (by first | omega | (dsimp only; omega)), hat, d2, g6⟩
          · rw [if_neg (fun e => by rw [h4] at e; exact absurd e.2.2 (by simp))] at g6
            simp (disch := omega) [-hset_if, -Bool.decide_and, hset_ne]
            exact Next.mk (j + 1, c) (by first | omega | (dsimp only; omega)) (by simp (disch := omega) [-hset_if, -Bool.decide_and, hset_ne]) ⟨rfl, g2, (by first | omega | (dsimp only; omega)), g4.keep, g5, g6⟩
        · have hx : (at_ c k).shed = true := by simpa using hx
          rw [if_neg (fun e => by rw [hx] at e; exact absurd e.2.1 (by simp))] at g6
          simp (disch := omega) [-hset_if, -Bool.decide_and, hset_ne]
          exact Next.mk (j + 1, c) (by first | omega | (dsimp only; omega)) (by simp (disch := omega) [-hset_if, -Bool.decide_and, hset_ne]) ⟨rfl, g2, (by first | omega | (dsimp only; omega)), g4.keep, g5, g6⟩
      · rw [if_neg (fun e => h3 e.1)] at g6
        simp (disch := omega) [-hset_if, -Bool.decide_and, hset_ne]
        exact Next.mk (j + 1, c) (by first | omega | (dsimp only; omega)) (by simp (disch := omega) [-hset_if, -Bool.decide_and, hset_ne]) ⟨rfl, g2, (by first | omega | (dsimp only; omega)), g4.keep, g5, g6⟩
    · rw [List.drop_of_length_le (by omega), shS] at g6
      simp (disch := omega) [-hset_if, -Bool.decide_and, hset_ne]
      refine Fin_id ?_
      rw [← g6] at hk
      exact hk nv n3 H3 E1 (by omega) (fun i hi => by rw [g2 i (fun e => by have := hEn i e; omega), hf2 i hi]) (fun i hi => ⟨hEn i hi, g5.lt i hi⟩) g5
  · rw [stp, if_neg h2] at hk
    simp (disch := omega) [-hset_if, -Bool.decide_and, hset_ne, a4.sl.lenK]
    have hom : ∀ k ∈ (ordR l).reverse, 0 ≤ k ∧ k < l.length := fun k hk => ordR_mem.1 (List.mem_reverse.1 hk)
    have hond : (ordR l).reverse.Nodup := (List.reverse_perm _).nodup_iff.2 ordR_nodup
    have hor : (ordR l).reverse.length = l.length := by simp [ordR_len]
    refine AW.while (σ := Nat × List Sta) (fun p => (ordR l).length - p.1) (fun p => [(0, pv), (2, .int .i64 base), (3, .int .i64 limit), (4, .int .i64 now), (11, nv), (12, ov), (15, .int .i64 (((ordR l).length : Int) - 1 - p.1))])
      (fun p n3 H3 => n3 = n2 ∧ (∀ i, ¬ E1 i → H3 i = H2 i) ∧ p.1 ≤ (ordR l).length ∧ AtS (ordR l).reverse s p.2 p.1 ∧ OwR ⟨Try.prog, w0⟩ H3 n2 E1 53 2 Sta.cells nv p.2 ∧ rsS l base limit now ((ordR l).reverse.drop p.1) p.2 = rsS l base limit now (ordR l).reverse s) (0, s) ?_ ?_ ?_
    · simp (disch := omega) [-hset_if, -Bool.decide_and, hset_ne]
    · exact ⟨rfl, fun _ _ => rfl, by simp, ⟨rfl, fun _ _ _ => rfl⟩, q2, by simp⟩
    rintro ⟨j, c⟩ n3 H3 ⟨rfl, g2, g3, g4, g5, g6⟩
    dsimp only at g3 g4 g5 g6 ⊢
    have ho3 : OwR ⟨Try.prog, w0⟩ H3 n3 E2 3 1 intC ov (ordR l) := a4.frame (by omega) (fun i hi => g2 i (fun e => hdis i e hi))
    simp (disch := omega) [-hset_if, -Bool.decide_and, hset_ne]
    refine cif_dec (fun h => ?_) (fun h => ?_)
    · have hjl : j < (ordR l).length := by omega
      have hki := hom _ (at_mem (l := (ordR l).reverse) (j := j) (by omega))
      have hs3 : SlR ⟨Try.prog, w0⟩ H3 D 5 Load.cells pv l := hs2.frame (fun i hi => g2 i (fun e => by have := hEn i e; have := hD i hi; omega))
      have hk1 := hki.1
      have hk2 := hki.2
      have hcl := g4.1
      have hk3 : at_ (ordR l).reverse (j : Int) < c.length := by omega
      have hcs : at_ c (at_ (ordR l).reverse (j : Int)) = at_ s (at_ (ordR l).reverse (j : Int)) := g4.2 j (by omega) (by omega)
      have hpc := pwS_b (c := c) hR hl
      have hld := at_rngI hR hki
      have hsi : instB (at_ c (at_ (ordR l).reverse (j : Int))).since := by rw [hcs]; exact hI _ (by rw [at_lt hk1 (by omega)]; exact List.getElem_mem _)
      rw [drop_at (by omega), rsS] at g6
      have hrv := at_rev (xs := ordR l) (j := j) hjl
      simp (disch := omega) [-hset_if, -Bool.decide_and, hset_ne, ho3.sl.ix elemS24, ho3.sl.load0 shp3]
      rw [← hrv]
      generalize hkk : at_ (ordR l).reverse (j : Int) = k at *
      refine AW.draw (X := ⟨_, 121, _, _⟩) (id := 15) mixed (.take 0 <| .take 1 <| .take 2 <| .take 3 <| .take 4 <| .take 5 <| .take 6 <| .take 7 <| .take 8 <| .take 9 <| .take 10 <| .take 11 <| .take 12 <| .take 13 <| .take 14 <| .each 15 [] (.take 16 <| .take 17 <| .take 18 <| .take 19 <| .take 20 <| .take 23 <| .take 24 <| .take 25 <| .take 26 <| .take 27 <| .take 29 <| .each 21 [18, 23, 24, 25, 26, 27, 29] (.take 22 <| .take 28 <| .take 30 <| .take 31 <| .done) <| .stop) <| .stop) (by kernel_rfl) ?_
      simp (disch := omega) [-hset_if, -Bool.decide_and, hset_ne, g5.sl.ix elemS44, hk1, hk3, g5.sl.load shp4, g5.sl.load0 shp4]
      refine gif_var (fun hx => ?_) (fun hx => ?_)
      · simp (disch := omega) [-hset_if, -Bool.decide_and, hset_ne, g5.sl.ix elemS44, hk1, hk2, hk3, g5.sl.load0 shp53, hs3.ix elemS22, hs3.load0 shp42]
        refine free_ok (at_ l k) (at_ c k) hn hsi ?_
        simp (disch := omega) [-hset_if, -Bool.decide_and, hset_ne]
        refine gif_var (fun h4 => ?_) (fun h4 => ?_)
        · simp (disch := omega) [-hset_if, -Bool.decide_and, hset_ne, hs3.ix elemS22, hk1, hk2, hs3.load shp2, hs3.load0 shp2]
          refine powerR_ok hs3 g5.sl hR hl (by omega) ?_
          simp (disch := omega) [-hset_if, -Bool.decide_and, hset_ne, hs3.ix elemS22, hs3.load shp2, hs3.load0 shp2, hk1, hk2]
          refine cif_dec (fun h3 => ?_) (fun h3 => ?_)
          · rw [if_pos ⟨hx, h4, h3⟩] at g6
            simp (disch := omega) [-hset_if, -Bool.decide_and, hset_ne, g5.sl.ix elemS44, hk1, hk3]
            refine OwR.store0 (C := ⟨Try.prog, w0⟩) (n := n3) (D := E1) (T := 53) (f := Sta.cells) (xs := c) g5 shp53 hk1 hk3 ⟨false, now⟩ (by simp) (by simp) (by simp) ?_
            intro H4 d1 d2
            simp (disch := omega) [-hset_if, -Bool.decide_and, hset_ne]
            have hat := g4.set (v := ⟨false, now⟩) hond (fun k hk => (hom k hk).1) (by omega)
            rw [hkk] at hat
            exact Next.mk (j + 1, c.set k.toNat ⟨false, now⟩) (by first | omega | (dsimp only; omega)) (by rw [show ((ordR l).length : Int) - 1 - ((j + 1 : Nat) : Int) = ((ordR l).length : Int) - 1 - j - 1 by omega]; simp (disch := omega) [-hset_if, -Bool.decide_and, hset_ne]) ⟨rfl, fun i hi => by rw [d1 i hi, g2 i hi], (by first | omega | (dsimp only; omega)), hat, d2, g6⟩
          · rw [if_neg (fun e => h3 e.2.2)] at g6
            simp (disch := omega) [-hset_if, -Bool.decide_and, hset_ne]
            exact Next.mk (j + 1, c) (by first | omega | (dsimp only; omega)) (by rw [show ((ordR l).length : Int) - 1 - ((j + 1 : Nat) : Int) = ((ordR l).length : Int) - 1 - j - 1 by omega]; simp (disch := omega) [-hset_if, -Bool.decide_and, hset_ne]) ⟨rfl, g2, (by first | omega | (dsimp only; omega)), g4.keep, g5, g6⟩
        · rw [if_neg (fun e => by rw [h4] at e; exact absurd e.2.1 (by simp))] at g6
          simp (disch := omega) [-hset_if, -Bool.decide_and, hset_ne]
          exact Next.mk (j + 1, c) (by first | omega | (dsimp only; omega)) (by rw [show ((ordR l).length : Int) - 1 - ((j + 1 : Nat) : Int) = ((ordR l).length : Int) - 1 - j - 1 by omega]; simp (disch := omega) [-hset_if, -Bool.decide_and, hset_ne]) ⟨rfl, g2, (by first | omega | (dsimp only; omega)), g4.keep, g5, g6⟩
      · rw [if_neg (fun e => by rw [hx] at e; exact absurd e.1 (by simp))] at g6
        simp (disch := omega) [-hset_if, -Bool.decide_and, hset_ne]
        exact Next.mk (j + 1, c) (by first | omega | (dsimp only; omega)) (by rw [show ((ordR l).length : Int) - 1 - ((j + 1 : Nat) : Int) = ((ordR l).length : Int) - 1 - j - 1 by omega]; simp (disch := omega) [-hset_if, -Bool.decide_and, hset_ne]) ⟨rfl, g2, (by first | omega | (dsimp only; omega)), g4.keep, g5, g6⟩
    · rw [List.drop_of_length_le (by omega), rsS] at g6
      simp (disch := omega) [-hset_if, -Bool.decide_and, hset_ne]
      refine Fin_id ?_
      rw [← g6] at hk
      exact hk nv n3 H3 E1 (by omega) (fun i hi => by rw [g2 i (fun e => by have := hEn i e; omega), hf2 i hi]) (fun i hi => ⟨hEn i hi, g5.lt i hi⟩) g5
end Go.Aw.S56
