/-
  Chapter 56: Step.
-/
import Derived.Test.YtmppccnafhckoaaS56j
namespace Go.Aw.S56
open Go.RowKit Go.Proofs Go.Aw.Tab
set_option linter.unusedSimpArgs false
set_option linter.unusedVariables false
set_option maxRecDepth 10000
set_option maxHeartbeats 1000000
set_option pp.deepTerms false
set_option pp.deepTerms.threshold 4
set_option pp.maxSteps 1500
attribute [local simp] Load.cells Sta.cells intC Num.cells range_get
variable {w0 : World} {n : Nat} {H : Heap} {K : Value → Nat → Heap → Prop} {pv sv ov : Value} {D E F : Nat → Prop} {l : List Load} {s : List Sta} {o : List Int} {base limit now : Int}
theorem at_set_ne {α : Type} [Inhabited α] {xs : List α} {a : Nat} {b : Int} {v : α} (h : b.toNat ≠ a) : at_ (xs.set a v) b = at_ xs b := by
  unfold at_
  rw [List.getD_eq_getElem?_getD, List.getD_eq_getElem?_getD, List.getElem?_set_ne (by omega)]
theorem at_set_eq {α : Type} [Inhabited α] {xs : List α} {a : Nat} {b : Int} {v : α} (h : b.toNat = a) (h2 : a < xs.length) : at_ (xs.set a v) b = v := by
  unfold at_
  rw [h, List.getD_eq_getElem?_getD, List.getElem?_set_self h2]; rfl
theorem at_nodup {xs : List Int} (h : xs.Nodup) {i j : Nat} (hi : i < xs.length) (hj : j < xs.length) (hne : i ≠ j) : at_ xs (i : Int) ≠ at_ xs (j : Int) := by
  rw [at_nat hi, at_nat hj]
  intro e
  exact hne ((List.getElem_inj h).1 e)
theorem fre_on {ld : Load} {st : Sta} (h : st.shed = false) : fre ld st now = decide (ld.on ≤ now - st.since) := by rw [fre, if_neg (by simp [h])]
theorem fre_off {ld : Load} {st : Sta} (h : st.shed = true) : fre ld st now = decide (ld.off ≤ now - st.since) := by rw [fre, if_pos h]
theorem pwS_b {c : List Sta} (hR : ∀ x ∈ l, rngB x = true) (hl : l.length ≤ 64) : 0 ≤ pwS l c ∧ pwS l c ≤ 1000000000000 := by
  have := pwS_bound (l := l) (s := c) hR
  omega
/-- Where a scan stands: behind j of the order o, with states c. -/
def AtS (o : List Int) (s c : List Sta) (j : Nat) : Prop := c.length = s.length ∧ ∀ q : Nat, j ≤ q → q < o.length → at_ c (at_ o (q : Int)) = at_ s (at_ o (q : Int))
theorem AtS.keep {c : List Sta} {j : Nat} (h : AtS o s c j) : AtS o s c (j + 1) := ⟨h.1, fun q h1 h2 => h.2 q (by omega) h2⟩
theorem AtS.set {c : List Sta} {j : Nat} {v : Sta} (h : AtS o s c j) (hnd : o.Nodup) (hp : ∀ k ∈ o, 0 ≤ k) (hj : j < o.length) : AtS o s (c.set (at_ o (j : Int)).toNat v) (j + 1) := by
  refine ⟨by rw [List.length_set]; exact h.1, fun q h1 h2 => ?_⟩
  have e1 := hp _ (at_mem h2)
  have e2 := hp _ (at_mem hj)
  have := at_nodup hnd h2 hj (by omega)
  rw [at_set_ne (by omega)]
  exact h.2 q (by omega) h2
theorem Step_ok (hb : l.length < 4611686018427387904) (hb2 : s.length ≤ 70) (hs : SlR ⟨Try.prog, w0⟩ H D 5 Load.cells pv l) (hD : ∀ i, D i → i < n) (ht : SlR ⟨Try.prog, w0⟩ H E 2 Sta.cells sv s) (hE : ∀ i, E i → i < n)
    (h1 : ∀ n' H', n ≤ n' → (∀ i, i < n → H' i = H i) → chS l s now [base, limit] ≠ 0 → K (.tuple #[.slice none 0 0, .int .i64 (chS l s now [base, limit])]) n' H')
    (hk : chS l s now [base, limit] = 0 → ∀ v n' H' E, n ≤ n' → (∀ i, i < n → H' i = H i) → (∀ i, E i → n ≤ i ∧ i < n') → OwR ⟨Try.prog, w0⟩ H' n' E 54 2 Sta.cells v (stp l s base limit now) → K (.tuple #[v, .int .i64 0]) n' H') : ACall ⟨Try.prog, w0⟩ 24 [pv, sv, .int .i64 base, .int .i64 limit, .int .i64 now] K n H := by
  refine ACall.run Try.func24 rfl Try.ntmps24 Try.results24 (by simp) fun J0 => ?_
  simp (disch := omega) [-hset_if, -Bool.decide_and, hset_ne]
  have hf : ∀ i, i < n → hset n (.cells [.int .i64 base, .int .i64 limit] 2 1) H i = H i := fun i hi => by rw [hset_ne (by omega)]
  refine checkS_ok (xs := [base, limit]) (F := (· = n)) (hs.frame (fun i hi => hf i (hD i hi))) (fun i hi => by have := hD i hi; omega) (ht.frame (fun i hi => hf i (hE i hi))) (fun i hi => by have := hE i hi; omega) ?_ ?_ hb (by omega) (by simp) ?_
  · exact (OwR.lit (n := n + 1) (T := 2) (j := n) (by omega) (by simp) (by omega) (by simp (disch := omega) [-hset_if, -Bool.decide_and, hset_ne]) rfl (by simp)).sl
  · intro i hi; subst hi; omega
  generalize hG : hset n (.cells [.int .i64 base, .int .i64 limit] 2 1) H = G at hf ⊢
  simp (disch := omega) [-hset_if, -Bool.decide_and, hset_ne]
  refine cif_bne (fun h0 => ?_) (fun h0 => ?_)
  rotate_left
  · simp (disch := omega) [-hset_if, -Bool.decide_and, hset_ne]
    refine Fin_id ?_
    exact h1 _ _ (by omega) hf h0
  obtain ⟨c1, c2, c3, c4, c5⟩ := chS_spec h0
  have hl := chk_len c1
  have hR := chk_rng c1
  have hbs : inB base = true := by simp at c2; exact c2.1
  obtain ⟨hb3, hb4⟩ := inB_iff.1 hbs
  obtain ⟨hn1, hn2⟩ : 0 ≤ now ∧ now ≤ 6311433599 := c4
  simp (disch := omega) [-hset_if, -Bool.decide_and, hset_ne]
  refine cloneSta_ok (ht.frame (fun i hi => hf i (hE i hi))) (fun i hi => by have := hE i hi; omega) (fun _ _ => rfl) (by omega) (by omega) ?_
  intro nv n1 H1 E1 f1 f2 f3 q1
  have hf1 : ∀ i, i < n → H1 i = H i := fun i hi => by rw [f2 i (by omega), hf i hi]
  simp (disch := omega) [-hset_if, -Bool.decide_and, hset_ne]
  refine order_ok c1 (hs.frame (fun i hi => hf1 i (hD i hi))) (fun i hi => by have := hD i hi; omega) ?_
  intro ov n2 H2 E2 a1 a2 a3 a4
  have hf2 : ∀ i, i < n → H2 i = H i := fun i hi => by rw [a2 i (by omega), hf1 i hi]
  have hs2 : SlR ⟨Try.prog, w0⟩ H2 D 5 Load.cells pv l := hs.frame (fun i hi => hf2 i (hD i hi))
  have ht2 : SlR ⟨Try.prog, w0⟩ H2 E 2 Sta.cells sv s := ht.frame (fun i hi => hf2 i (hE i hi))
  have hpb := pwS_b (c := s) hR hl
  simp (disch := omega) [-hset_if, -Bool.decide_and, hset_ne]
  refine power_ok hs2 (fun i hi => by have := hD i hi; omega) ht2 (fun i hi => by have := hE i hi; omega) hR hl (by omega) ?_
  simp (disch := omega) [-hset_if, -Bool.decide_and, hset_ne, a4.sl.lenK]
  have hol : (ordR l).length = l.length := ordR_len
  refine cif_dec (fun h2 => ?_) (fun h2 => ?_)
  · rw [stp, if_pos h2] at hk
    simp (disch := omega) [-hset_if, -Bool.decide_and, hset_ne, a4.sl.lenK]
    refine AW.while (σ := Nat × List Sta) (fun p => (ordR l).length - p.1) (fun p => [(0, pv), (1, sv), (3, .int .i64 limit), (4, .int .i64 now), (13, nv), (15, .int .i64 (base + pwS l p.2)), (46, ov), (47, .int .i64 (ordR l).length), (48, .int .i64 p.1)])
      (fun p n3 H3 => n2 ≤ n3 ∧ (∀ i, i < n2 → ¬ E1 i → H3 i = H2 i) ∧ p.1 ≤ (ordR l).length ∧ AtS (ordR l) s p.2 p.1 ∧ OwR ⟨Try.prog, w0⟩ H3 n3 E1 54 2 Sta.cells nv p.2 ∧ shS l base limit now ((ordR l).drop p.1) p.2 = shS l base limit now (ordR l) s) (0, s) ?_ ?_ ?_
    · simp (disch := omega) [-hset_if, -Bool.decide_and, hset_ne]
    · exact ⟨Nat.le_refl _, fun _ _ _ => rfl, by simp, ⟨rfl, fun _ _ _ => rfl⟩, q1.frame (by omega) (fun i hi => a2 i (f3 i hi).2), by simp⟩
    rintro ⟨j, c⟩ n3 H3 ⟨g1, g2, g3, g4, g5, g6⟩
    dsimp only at g3 g4 g5 g6 ⊢
    simp (disch := omega) [-hset_if, -Bool.decide_and, hset_ne]
    refine cif_dec (fun h => ?_) (fun h => ?_)
    · have hki := ordR_mem.1 (at_mem (l := ordR l) (j := j) (by omega))
      have ho3 : OwR ⟨Try.prog, w0⟩ H3 n3 E2 3 1 intC ov (ordR l) := a4.frame (by omega) (fun i hi => g2 i (a3 i hi).2 (fun e => by have := f3 i e; have := a3 i hi; omega))
      simp (disch := omega) [-hset_if, -Bool.decide_and, hset_ne, ho3.sl.ix elemS24, ho3.sl.load0 shp3]
      have hs3 : SlR ⟨Try.prog, w0⟩ H3 D 5 Load.cells pv l := hs2.frame (fun i hi => g2 i (by have := hD i hi; omega) (fun e => by have := f3 i e; have := hD i hi; omega))
      have ht3 : SlR ⟨Try.prog, w0⟩ H3 E 2 Sta.cells sv s := ht2.frame (fun i hi => g2 i (by have := hE i hi; omega) (fun e => by have := f3 i e; have := hE i hi; omega))
      have hs4 := fun o => hs3.frame (H' := hset n3 o H3) (fun i hi => by have := hD i hi; rw [hset_ne (by omega)])
      have ht4 := fun o => ht3.frame (H' := hset n3 o H3) (fun i hi => by have := hE i hi; rw [hset_ne (by omega)])
      have hs5 := fun o o' => hs3.frame (H' := hset (n3 + 1) o' (hset n3 o H3)) (fun i hi => by have := hD i hi; rw [hset_ne (by omega), hset_ne (by omega)])
      have ht5 := fun o o' => ht3.frame (H' := hset (n3 + 1) o' (hset n3 o H3)) (fun i hi => by have := hE i hi; rw [hset_ne (by omega), hset_ne (by omega)])
      have hls4 := fun o h1 h2 => (hs4 o).load0 shp42 (z := at_ (ordR l) (j : Int)) (by omega) (by omega) h1 h2
      have hlt4 := fun o h1 h2 => (ht4 o).load0 shp54 (z := at_ (ordR l) (j : Int)) (by omega) (by omega) h1 h2
      have hls5 := fun o o' h1 h2 => (hs5 o o').load0 shp42 (z := at_ (ordR l) (j : Int)) (by omega) (by omega) h1 h2
      have hlt5 := fun o o' h1 h2 => (ht5 o o').load0 shp54 (z := at_ (ordR l) (j : Int)) (by omega) (by omega) h1 h2
      have ht6 := fun o o' o2 => ht3.frame (H' := hset n3 o2 (hset (n3 + 1) o' (hset n3 o H3))) (fun i hi => by have := hE i hi; rw [hset_ne (by omega), hset_ne (by omega), hset_ne (by omega)])
      have hlt6 := fun o o' o2 h1 h2 => (ht6 o o' o2).load0 shp54 (z := at_ (ordR l) (j : Int)) (by omega) (by omega) h1 h2
      refine AW.draw (X := ⟨_, 134, _, _⟩) (id := 11) mixed (.take 0 <| .take 1 <| .take 2 <| .take 3 <| .take 4 <| .take 5 <| .take 6 <| .take 7 <| .each 8 [0, 1, 2, 3, 4, 5, 6, 7] (.each 9 [0, 1, 2, 3, 4, 5, 6, 7] (.each 10 [4, 5, 6, 7] (.each 11 [] (.done) <| .stop) <| .stop) <| .stop) <| .each 9 [0, 1, 2, 3, 4, 5, 6, 7] (.each 8 [0, 1, 2, 3, 4, 5, 6, 7] (.each 10 [4, 5, 6, 7] (.each 11 [] (.done) <| .stop) <| .stop) <| .stop) <| .stop) (by kernel_rfl) ?_
      have hk1 := hki.1
      have hk2 := hki.2
      have hk3 : at_ (ordR l) (j : Int) < s.length := by omega
      simp (disch := omega) [-hset_if, -Bool.decide_and, hset_ne, hs3.ix elemS22, ht3.ix elemS46, hk1, hk2, hk3, hls4, hlt4, hls5, hlt5, hlt6, hs3.load0 shp42, ht3.load0 shp54]
      have hst := pwS_set (l := l) (s := c) (k := (at_ (ordR l) (j : Int)).toNat) ⟨true, now⟩ (by omega) (by have := g4.1; omega)
      rw [Int.toNat_of_nonneg hk1] at hst
      have hcs : at_ c (at_ (ordR l) (j : Int)) = at_ s (at_ (ordR l) (j : Int)) := g4.2 j (by omega) (by omega)
      have hpc := pwS_b (c := c) hR hl
      have hpc2 := pwS_b (c := c.set (at_ (ordR l) (j : Int)).toNat ⟨true, now⟩) hR hl
      have hld := at_rngI hR hki
      have hrn := pw_bound hR hki
      simp only [rngB, decide_eq_true_eq] at hrn
      have hsi : instB (at_ s (at_ (ordR l) (j : Int))).since := c5 _ (by rw [at_lt hk1 hk3]; exact List.getElem_mem _)
      obtain ⟨hsi1, hsi2⟩ := hsi
      rw [drop_at (by omega), shS] at g6
      generalize hkk : at_ (ordR l) (j : Int) = k at *
      refine ⟨?_, ?_⟩
      · refine gif_dec (fun h3 => ?_) (fun h3 => ?_)
        · simp (disch := omega) [-hset_if, -Bool.decide_and, hset_ne]
          refine gif_var (fun hx => ?_) (fun hx => ?_)
          · have hx : (at_ s k).shed = false := by simpa using hx
            rw [hcs, fre_on hx] at g6
            simp (disch := omega) [-hset_if, -Bool.decide_and, hset_ne]
            refine cif_dec (fun h4 => ?_) (fun h4 => ?_)
            · rw [if_pos ⟨h3, hx, decide_eq_true h4⟩] at g6
              have hkc : k < (c.length : Int) := by have := g4.1; omega
              simp (disch := omega) [-hset_if, -Bool.decide_and, hset_ne, g5.sl.ix elemS46, hk1, hkc]
              refine OwR.store0 (C := ⟨Try.prog, w0⟩) (n := n3 + 1 + 1) (D := E1) (T := 54) (f := Sta.cells) (xs := c) ?_ shp54 hk1 hkc ⟨true, now⟩ ?_ ?_ ?_ ?_
              · refine g5.frame (by omega) (fun i hi => ?_)
                have := g5.lt i hi
                simp (disch := omega) only [hset_ne]
              · simp
              · simp
              · simp
              intro H4 d1 d2
              have e4 := fun i (hi : n3 ≤ i) => d1 i (fun e => by have := g5.lt i e; omega)
              simp (disch := omega) [-hset_if, -Bool.decide_and, hset_ne, e4]
              have hst2 : base + pwS l (c.set k.toNat ⟨true, now⟩) = base + pwS l c - (at_ l k).pw := by rw [hst, hcs, hx]; simp; omega
              have hat := g4.set (v := ⟨true, now⟩) ordR_nodup (fun k hk => (ordR_mem.1 hk).1) h
              rw [hkk] at hat
              refine Next.mk (j + 1, c.set k.toNat ⟨true, now⟩) (by first | omega | (dsimp only; omega)) (by rw [hst2]; simp (disch := omega) [-hset_if, -Bool.decide_and, hset_ne]) ⟨by omega, fun i hi hi2 => ?_, (by first | omega | (dsimp only; omega)), hat, d2, g6⟩
              rw [d1 i hi2]
              simp (disch := omega) only [hset_ne]
              exact g2 i hi hi2
            · rw [if_neg (fun e => h4 (of_decide_eq_true e.2.2))] at g6
              simp (disch := omega) [-hset_if, -Bool.decide_and, hset_ne]
              refine Next.mk (j + 1, c) (by first | omega | (dsimp only; omega)) (by simp (disch := omega) [-hset_if, -Bool.decide_and, hset_ne]) ⟨by omega, fun i hi hi2 => by simp (disch := omega) only [hset_ne]; exact g2 i hi hi2, (by first | omega | (dsimp only; omega)), g4.keep, g5.frame (by omega) (fun i hi => by have := g5.lt i hi; simp (disch := omega) only [hset_ne]), g6⟩
          · have hx : (at_ s k).shed = true := by simpa using hx
            rw [if_neg (fun e => by rw [hcs, hx] at e; exact absurd e.2.1 (by simp))] at g6
            simp (disch := omega) [-hset_if, -Bool.decide_and, hset_ne]
            refine Next.mk (j + 1, c) (by first | omega | (dsimp only; omega)) (by simp (disch := omega) [-hset_if, -Bool.decide_and, hset_ne]) ⟨by omega, fun i hi hi2 => by simp (disch := omega) only [hset_ne]; exact g2 i hi hi2, (by first | omega | (dsimp only; omega)), g4.keep, g5.frame (by omega) (fun i hi => by have := g5.lt i hi; simp (disch := omega) only [hset_ne]), g6⟩
        · rw [if_neg (fun e => h3 e.1)] at g6
          simp (disch := omega) [-hset_if, -Bool.decide_and, hset_ne]
          refine Next.mk (j + 1, c) (by first | omega | (dsimp only; omega)) (by simp (disch := omega) [-hset_if, -Bool.decide_and, hset_ne]) ⟨by omega, fun i hi hi2 => by simp (disch := omega) only [hset_ne]; exact g2 i hi hi2, (by first | omega | (dsimp only; omega)), g4.keep, g5.frame (by omega) (fun i hi => by have := g5.lt i hi; simp (disch := omega) only [hset_ne]), g6⟩
      · refine gif_dec (fun h3 => ?_) (fun h3 => ?_)
        · simp (disch := omega) [-hset_if, -Bool.decide_and, hset_ne]
          refine gif_var (fun hx => ?_) (fun hx => ?_)
          · have hx : (at_ s k).shed = false := by simpa using hx
            rw [hcs, fre_on hx] at g6
            simp (disch := omega) [-hset_if, -Bool.decide_and, hset_ne]
            refine cif_dec (fun h4 => ?_) (fun h4 => ?_)
            · rw [if_pos ⟨h3, hx, decide_eq_true h4⟩] at g6
              have hkc : k < (c.length : Int) := by have := g4.1; omega
              simp (disch := omega) [-hset_if, -Bool.decide_and, hset_ne, g5.sl.ix elemS46, hk1, hkc]
              refine OwR.store0 (C := ⟨Try.prog, w0⟩) (n := n3 + 1 + 1) (D := E1) (T := 54) (f := Sta.cells) (xs := c) ?_ shp54 hk1 hkc ⟨true, now⟩ ?_ ?_ ?_ ?_
              · refine g5.frame (by omega) (fun i hi => ?_)
                have := g5.lt i hi
                simp (disch := omega) only [hset_ne]
              · simp
              · simp
              · simp
              intro H4 d1 d2
              have e4 := fun i (hi : n3 ≤ i) => d1 i (fun e => by have := g5.lt i e; omega)
              simp (disch := omega) [-hset_if, -Bool.decide_and, hset_ne, e4]
              have hst2 : base + pwS l (c.set k.toNat ⟨true, now⟩) = base + pwS l c - (at_ l k).pw := by rw [hst, hcs, hx]; simp; omega
              have hat := g4.set (v := ⟨true, now⟩) ordR_nodup (fun k hk => (ordR_mem.1 hk).1) h
              rw [hkk] at hat
              refine Next.mk (j + 1, c.set k.toNat ⟨true, now⟩) (by first | omega | (dsimp only; omega)) (by rw [hst2]; simp (disch := omega) [-hset_if, -Bool.decide_and, hset_ne]) ⟨by omega, fun i hi hi2 => ?_, (by first | omega | (dsimp only; omega)), hat, d2, g6⟩
              rw [d1 i hi2]
              simp (disch := omega) only [hset_ne]
              exact g2 i hi hi2
            · rw [if_neg (fun e => h4 (of_decide_eq_true e.2.2))] at g6
              simp (disch := omega) [-hset_if, -Bool.decide_and, hset_ne]
              refine Next.mk (j + 1, c) (by first | omega | (dsimp only; omega)) (by simp (disch := omega) [-hset_if, -Bool.decide_and, hset_ne]) ⟨by omega, fun i hi hi2 => by simp (disch := omega) only [hset_ne]; exact g2 i hi hi2, (by first | omega | (dsimp only; omega)), g4.keep, g5.frame (by omega) (fun i hi => by have := g5.lt i hi; simp (disch := omega) only [hset_ne]), g6⟩
          · have hx : (at_ s k).shed = true := by simpa using hx
            rw [if_neg (fun e => by rw [hcs, hx] at e; exact absurd e.2.1 (by simp))] at g6
            simp (disch := omega) [-hset_if, -Bool.decide_and, hset_ne]
            refine Next.mk (j + 1, c) (by first | omega | (dsimp only; omega)) (by simp (disch := omega) [-hset_if, -Bool.decide_and, hset_ne]) ⟨by omega, fun i hi hi2 => by simp (disch := omega) only [hset_ne]; exact g2 i hi hi2, (by first | omega | (dsimp only; omega)), g4.keep, g5.frame (by omega) (fun i hi => by have := g5.lt i hi; simp (disch := omega) only [hset_ne]), g6⟩
        · rw [if_neg (fun e => h3 e.1)] at g6
          simp (disch := omega) [-hset_if, -Bool.decide_and, hset_ne]
          refine Next.mk (j + 1, c) (by first | omega | (dsimp only; omega)) (by simp (disch := omega) [-hset_if, -Bool.decide_and, hset_ne]) ⟨by omega, fun i hi hi2 => by simp (disch := omega) only [hset_ne]; exact g2 i hi hi2, (by first | omega | (dsimp only; omega)), g4.keep, g5.frame (by omega) (fun i hi => by have := g5.lt i hi; simp (disch := omega) only [hset_ne]), g6⟩
    · rw [List.drop_of_length_le (by omega), shS] at g6
      simp (disch := omega) [-hset_if, -Bool.decide_and, hset_ne]
      refine Fin_id ?_
      rw [← g6] at hk
      exact hk h0 nv n3 H3 E1 (by omega) (fun i hi => by rw [g2 i (by omega) (fun e => by have := f3 i e; omega), hf2 i hi]) (fun i hi => ⟨by have := f3 i hi; omega, g5.lt i hi⟩) g5
  · rw [stp, if_neg h2] at hk
    simp (disch := omega) [-hset_if, -Bool.decide_and, hset_ne]
    refine reverse_ok a4 (by omega) ?_
    intro H6 d1 a5
    have hf6 : ∀ i, i < n → H6 i = H i := fun i hi => by rw [d1 i (fun e => by have := a3 i e; omega), hf2 i hi]
    have hs6 : SlR ⟨Try.prog, w0⟩ H6 D 5 Load.cells pv l := hs.frame (fun i hi => hf6 i (hD i hi))
    have ht6_ : SlR ⟨Try.prog, w0⟩ H6 E 2 Sta.cells sv s := ht.frame (fun i hi => hf6 i (hE i hi))
    have hom : ∀ k ∈ (ordR l).reverse, 0 ≤ k ∧ k < l.length := fun k hk => ordR_mem.1 (List.mem_reverse.1 hk)
    have hond : (ordR l).reverse.Nodup := (List.reverse_perm _).nodup_iff.2 ordR_nodup
    have hor : (ordR l).reverse.length = l.length := by simp [ordR_len]
    generalize (ordR l).reverse = oR at *
    simp (disch := omega) [-hset_if, -Bool.decide_and, hset_ne, a5.sl.lenK]
    refine AW.while (σ := Nat × List Sta) (fun p => oR.length - p.1) (fun p => [(0, pv), (1, sv), (3, .int .i64 limit), (4, .int .i64 now), (13, nv), (15, .int .i64 (base + pwS l p.2)), (90, ov), (91, .int .i64 oR.length), (92, .int .i64 p.1)])
      (fun p n3 H3 => n2 ≤ n3 ∧ (∀ i, i < n2 → ¬ E1 i → H3 i = H6 i) ∧ p.1 ≤ oR.length ∧ AtS oR s p.2 p.1 ∧ OwR ⟨Try.prog, w0⟩ H3 n3 E1 54 2 Sta.cells nv p.2 ∧ rsS l base limit now (oR.drop p.1) p.2 = rsS l base limit now oR s) (0, s) ?_ ?_ ?_
    · simp (disch := omega) [-hset_if, -Bool.decide_and, hset_ne]
    · exact ⟨Nat.le_refl _, fun _ _ _ => rfl, by simp, ⟨rfl, fun _ _ _ => rfl⟩, q1.frame (by omega) (fun i hi => by have := f3 i hi; rw [d1 i (fun e => by have := a3 i e; omega), a2 i (by omega)]), by simp⟩
    rintro ⟨j, c⟩ n3 H3 ⟨g1, g2, g3, g4, g5, g6⟩
    dsimp only at g3 g4 g5 g6 ⊢
    simp (disch := omega) [-hset_if, -Bool.decide_and, hset_ne]
    refine cif_dec (fun h => ?_) (fun h => ?_)
    · have hki := hom _ (at_mem (l := oR) (j := j) (by omega))
      have ho3 : OwR ⟨Try.prog, w0⟩ H3 n3 E2 3 1 intC ov oR := a5.frame (by omega) (fun i hi => g2 i (a3 i hi).2 (fun e => by have := f3 i e; have := a3 i hi; omega))
      simp (disch := omega) [-hset_if, -Bool.decide_and, hset_ne, ho3.sl.ix elemS24, ho3.sl.load0 shp3]
      have hs3 : SlR ⟨Try.prog, w0⟩ H3 D 5 Load.cells pv l := hs6.frame (fun i hi => g2 i (by have := hD i hi; omega) (fun e => by have := f3 i e; have := hD i hi; omega))
      have ht3 : SlR ⟨Try.prog, w0⟩ H3 E 2 Sta.cells sv s := ht6_.frame (fun i hi => g2 i (by have := hE i hi; omega) (fun e => by have := f3 i e; have := hE i hi; omega))
      have hs4 := fun o => hs3.frame (H' := hset n3 o H3) (fun i hi => by have := hD i hi; rw [hset_ne (by omega)])
      have ht4 := fun o => ht3.frame (H' := hset n3 o H3) (fun i hi => by have := hE i hi; rw [hset_ne (by omega)])
      have hs5 := fun o o' => hs3.frame (H' := hset (n3 + 1) o' (hset n3 o H3)) (fun i hi => by have := hD i hi; rw [hset_ne (by omega), hset_ne (by omega)])
      have ht5 := fun o o' => ht3.frame (H' := hset (n3 + 1) o' (hset n3 o H3)) (fun i hi => by have := hE i hi; rw [hset_ne (by omega), hset_ne (by omega)])
      have hls4 := fun o h1 h2 => (hs4 o).load0 shp42 (z := at_ oR (j : Int)) (by omega) (by omega) h1 h2
      have hlt4 := fun o h1 h2 => (ht4 o).load0 shp54 (z := at_ oR (j : Int)) (by omega) (by omega) h1 h2
      have hls5 := fun o o' h1 h2 => (hs5 o o').load0 shp42 (z := at_ oR (j : Int)) (by omega) (by omega) h1 h2
      have hlt5 := fun o o' h1 h2 => (ht5 o o').load0 shp54 (z := at_ oR (j : Int)) (by omega) (by omega) h1 h2
      have ht6 := fun o o' o2 => ht3.frame (H' := hset n3 o2 (hset (n3 + 1) o' (hset n3 o H3))) (fun i hi => by have := hE i hi; rw [hset_ne (by omega), hset_ne (by omega), hset_ne (by omega)])
      have hlt6 := fun o o' o2 h1 h2 => (ht6 o o' o2).load0 shp54 (z := at_ oR (j : Int)) (by omega) (by omega) h1 h2
      refine AW.draw (X := ⟨_, 134, _, _⟩) (id := 21) mixed (.take 0 <| .take 1 <| .take 2 <| .take 3 <| .take 4 <| .take 5 <| .take 6 <| .take 7 <| .each 8 [0, 1, 2, 3, 4, 5, 6, 7] (.each 9 [0, 1, 2, 3, 4, 5, 6, 7] (.each 10 [4, 5, 6, 7] (.each 11 [] (.done) <| .stop) <| .stop) <| .stop) <| .each 9 [0, 1, 2, 3, 4, 5, 6, 7] (.each 8 [0, 1, 2, 3, 4, 5, 6, 7] (.each 10 [4, 5, 6, 7] (.each 11 [] (.done) <| .stop) <| .stop) <| .stop) <| .stop) (by kernel_rfl) ?_
      have hk1 := hki.1
      have hk2 := hki.2
      have hk3 : at_ oR (j : Int) < s.length := by omega
      simp (disch := omega) [-hset_if, -Bool.decide_and, hset_ne, hs3.ix elemS22, ht3.ix elemS46, hk1, hk2, hk3, hls4, hlt4, hls5, hlt5, hlt6, hs3.load0 shp42, ht3.load0 shp54]
      have hst := pwS_set (l := l) (s := c) (k := (at_ oR (j : Int)).toNat) ⟨false, now⟩ (by omega) (by have := g4.1; omega)
      rw [Int.toNat_of_nonneg hk1] at hst
      have hcs : at_ c (at_ oR (j : Int)) = at_ s (at_ oR (j : Int)) := g4.2 j (by omega) (by omega)
      have hpc := pwS_b (c := c) hR hl
      have hpc2 := pwS_b (c := c.set (at_ oR (j : Int)).toNat ⟨false, now⟩) hR hl
      have hld := at_rngI hR hki
      have hrn := pw_bound hR hki
      simp only [rngB, decide_eq_true_eq] at hrn
      have hsi : instB (at_ s (at_ oR (j : Int))).since := c5 _ (by rw [at_lt hk1 hk3]; exact List.getElem_mem _)
      obtain ⟨hsi1, hsi2⟩ := hsi
      rw [drop_at (by omega), rsS] at g6
      generalize hkk : at_ oR (j : Int) = k at *
      refine ⟨?_, ?_⟩
      · refine gif_var (fun hx => ?_) (fun hx => ?_)
        · have hp : pwS l (c.set k.toNat ⟨false, now⟩) = pwS l c + (at_ l k).pw := by rw [hst, hcs, hx]; simp
          rw [hcs, fre_off hx] at g6
          simp (disch := omega) [-hset_if, -Bool.decide_and, hset_ne]
          refine gif_dec (fun h3 => ?_) (fun h3 => ?_)
          · simp (disch := omega) [-hset_if, -Bool.decide_and, hset_ne]
            refine cif_dec (fun h4 => ?_) (fun h4 => ?_)
            · rw [if_pos ⟨hx, decide_eq_true h3, h4⟩] at g6
              have hkc : k < (c.length : Int) := by have := g4.1; omega
              simp (disch := omega) [-hset_if, -Bool.decide_and, hset_ne, g5.sl.ix elemS46, hk1, hkc]
              refine OwR.store0 (C := ⟨Try.prog, w0⟩) (n := n3 + 1 + 1) (D := E1) (T := 54) (f := Sta.cells) (xs := c) ?_ shp54 hk1 hkc ⟨false, now⟩ ?_ ?_ ?_ ?_
              · refine g5.frame (by omega) (fun i hi => ?_)
                have := g5.lt i hi
                simp (disch := omega) only [hset_ne]
              · simp
              · simp
              · simp
              intro H4 d1 d2
              have e4 := fun i (hi : n3 ≤ i) => d1 i (fun e => by have := g5.lt i e; omega)
              simp (disch := omega) [-hset_if, -Bool.decide_and, hset_ne, e4]
              have hst2 : base + pwS l (c.set k.toNat ⟨false, now⟩) = base + pwS l c + (at_ l k).pw := by omega
              have hat := g4.set (v := ⟨false, now⟩) hond (fun k hk => (hom k hk).1) h
              rw [hkk] at hat
              refine Next.mk (j + 1, c.set k.toNat ⟨false, now⟩) (by first | omega | (dsimp only; omega)) (by rw [hst2]; simp (disch := omega) [-hset_if, -Bool.decide_and, hset_ne]) ⟨by omega, fun i hi hi2 => ?_, (by first | omega | (dsimp only; omega)), hat, d2, g6⟩
              rw [d1 i hi2]
              simp (disch := omega) only [hset_ne]
              exact g2 i hi hi2
            · rw [if_neg (fun e => h4 e.2.2)] at g6
              simp (disch := omega) [-hset_if, -Bool.decide_and, hset_ne]
              refine Next.mk (j + 1, c) (by first | omega | (dsimp only; omega)) (by simp (disch := omega) [-hset_if, -Bool.decide_and, hset_ne]) ⟨by omega, fun i hi hi2 => by simp (disch := omega) only [hset_ne]; exact g2 i hi hi2, (by first | omega | (dsimp only; omega)), g4.keep, g5.frame (by omega) (fun i hi => by have := g5.lt i hi; simp (disch := omega) only [hset_ne]), g6⟩
          · rw [if_neg (fun e => h3 (of_decide_eq_true e.2.1))] at g6
            simp (disch := omega) [-hset_if, -Bool.decide_and, hset_ne]
            refine Next.mk (j + 1, c) (by first | omega | (dsimp only; omega)) (by simp (disch := omega) [-hset_if, -Bool.decide_and, hset_ne]) ⟨by omega, fun i hi hi2 => by simp (disch := omega) only [hset_ne]; exact g2 i hi hi2, (by first | omega | (dsimp only; omega)), g4.keep, g5.frame (by omega) (fun i hi => by have := g5.lt i hi; simp (disch := omega) only [hset_ne]), g6⟩
        · rw [if_neg (fun e => by rw [hcs, hx] at e; exact absurd e.1 (by simp))] at g6
          simp (disch := omega) [-hset_if, -Bool.decide_and, hset_ne]
          refine Next.mk (j + 1, c) (by first | omega | (dsimp only; omega)) (by simp (disch := omega) [-hset_if, -Bool.decide_and, hset_ne]) ⟨by omega, fun i hi hi2 => by simp (disch := omega) only [hset_ne]; exact g2 i hi hi2, (by first | omega | (dsimp only; omega)), g4.keep, g5.frame (by omega) (fun i hi => by have := g5.lt i hi; simp (disch := omega) only [hset_ne]), g6⟩
      · refine gif_var (fun hx => ?_) (fun hx => ?_)
        · have hp : pwS l (c.set k.toNat ⟨false, now⟩) = pwS l c + (at_ l k).pw := by rw [hst, hcs, hx]; simp
          rw [hcs, fre_off hx] at g6
          simp (disch := omega) [-hset_if, -Bool.decide_and, hset_ne]
          refine gif_dec (fun h3 => ?_) (fun h3 => ?_)
          · simp (disch := omega) [-hset_if, -Bool.decide_and, hset_ne]
            refine cif_dec (fun h4 => ?_) (fun h4 => ?_)
            · rw [if_pos ⟨hx, decide_eq_true h3, h4⟩] at g6
              have hkc : k < (c.length : Int) := by have := g4.1; omega
              simp (disch := omega) [-hset_if, -Bool.decide_and, hset_ne, g5.sl.ix elemS46, hk1, hkc]
              refine OwR.store0 (C := ⟨Try.prog, w0⟩) (n := n3 + 1 + 1) (D := E1) (T := 54) (f := Sta.cells) (xs := c) ?_ shp54 hk1 hkc ⟨false, now⟩ ?_ ?_ ?_ ?_
              · refine g5.frame (by omega) (fun i hi => ?_)
                have := g5.lt i hi
                simp (disch := omega) only [hset_ne]
              · simp
              · simp
              · simp
              intro H4 d1 d2
              have e4 := fun i (hi : n3 ≤ i) => d1 i (fun e => by have := g5.lt i e; omega)
              simp (disch := omega) [-hset_if, -Bool.decide_and, hset_ne, e4]
              have hst2 : base + pwS l (c.set k.toNat ⟨false, now⟩) = base + pwS l c + (at_ l k).pw := by omega
              have hat := g4.set (v := ⟨false, now⟩) hond (fun k hk => (hom k hk).1) h
              rw [hkk] at hat
              refine Next.mk (j + 1, c.set k.toNat ⟨false, now⟩) (by first | omega | (dsimp only; omega)) (by rw [hst2]; simp (disch := omega) [-hset_if, -Bool.decide_and, hset_ne]) ⟨by omega, fun i hi hi2 => ?_, (by first | omega | (dsimp only; omega)), hat, d2, g6⟩
              rw [d1 i hi2]
              simp (disch := omega) only [hset_ne]
              exact g2 i hi hi2
            · rw [if_neg (fun e => h4 e.2.2)] at g6
              simp (disch := omega) [-hset_if, -Bool.decide_and, hset_ne]
              refine Next.mk (j + 1, c) (by first | omega | (dsimp only; omega)) (by simp (disch := omega) [-hset_if, -Bool.decide_and, hset_ne]) ⟨by omega, fun i hi hi2 => by simp (disch := omega) only [hset_ne]; exact g2 i hi hi2, (by first | omega | (dsimp only; omega)), g4.keep, g5.frame (by omega) (fun i hi => by have := g5.lt i hi; simp (disch := omega) only [hset_ne]), g6⟩
          · rw [if_neg (fun e => h3 (of_decide_eq_true e.2.1))] at g6
            simp (disch := omega) [-hset_if, -Bool.decide_and, hset_ne]
            refine Next.mk (j + 1, c) (by first | omega | (dsimp only; omega)) (by simp (disch := omega) [-hset_if, -Bool.decide_and, hset_ne]) ⟨by omega, fun i hi hi2 => by simp (disch := omega) only [hset_ne]; exact g2 i hi hi2, (by first | omega | (dsimp only; omega)), g4.keep, g5.frame (by omega) (fun i hi => by have := g5.lt i hi; simp (disch := omega) only [hset_ne]), g6⟩
        · rw [if_neg (fun e => by rw [hcs, hx] at e; exact absurd e.1 (by simp))] at g6
          simp (disch := omega) [-hset_if, -Bool.decide_and, hset_ne]
          refine Next.mk (j + 1, c) (by first | omega | (dsimp only; omega)) (by simp (disch := omega) [-hset_if, -Bool.decide_and, hset_ne]) ⟨by omega, fun i hi hi2 => by simp (disch := omega) only [hset_ne]; exact g2 i hi hi2, (by first | omega | (dsimp only; omega)), g4.keep, g5.frame (by omega) (fun i hi => by have := g5.lt i hi; simp (disch := omega) only [hset_ne]), g6⟩
    · rw [List.drop_of_length_le (by omega), rsS] at g6
      simp (disch := omega) [-hset_if, -Bool.decide_and, hset_ne]
      refine Fin_id ?_
      rw [← g6] at hk
      exact hk h0 nv n3 H3 E1 (by omega) (fun i hi => by rw [g2 i (by omega) (fun e => by have := f3 i e; omega), hf6 i hi]) (fun i hi => ⟨by have := f3 i hi; omega, g5.lt i hi⟩) g5
end Go.Aw.S56
