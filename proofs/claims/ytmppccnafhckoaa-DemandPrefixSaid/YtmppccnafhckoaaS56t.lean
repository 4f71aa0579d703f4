/-
  Chapter 56: the statement DemandPrefix.
-/
import Derived.Test.YtmppccnafhckoaaS56q
import Derived.Test.YtmppccnafhckoaaS56r
namespace Go.Aw.S56
open Go.RowKit Go.Proofs Go.Aw.Tab
set_option linter.unusedSimpArgs false
set_option linter.unusedVariables false
set_option maxRecDepth 10000
set_option maxHeartbeats 1000000
set_option pp.deepTerms false
set_option pp.deepTerms.threshold 4
set_option pp.maxSteps 1500
attribute [local simp] Load.cells Sta.cells intC Num.cells range_get
variable {w0 : World} {n : Nat} {H : Heap} {K : Value → Nat → Heap → Prop} {pv sv ov : Value} {D E F : Nat → Prop} {l : List Load} {s : List Sta} {base limit now : Int}
theorem chk_ne9 : chk l ≠ 9 := by
  unfold chk stN stD stR
  (repeat' split) <;> omega
theorem prefixLaw_ok (hs : SlR ⟨Try.prog, w0⟩ H D 5 Load.cells pv l) (hD : ∀ i, D i → i < n) (hr : Res n H K (.bool true)) : ACall ⟨Try.prog, w0⟩ 8 [pv, .int .i64 base, .int .i64 limit, .int .i64 now] K n H := by
  have hU : ∀ i, i < n → H i = H i := fun _ _ => rfl
  refine ACall.run Try.func8 rfl Try.ntmps8 Try.results8 (by simp) fun J0 => ?_
  simp (disch := omega) [-hset_if, -Bool.decide_and, hset_ne, hs.lenK]
  refine gif_dec (fun a1 => ?_) (fun a1 => ?_)
  · simp (disch := omega) [-hset_if, -Bool.decide_and, hset_ne]
    refine awake_ok ?_
    simp (disch := omega) [-hset_if, -Bool.decide_and, hset_ne]
    exact hr.fin rfl (by omega) hU
  simp (disch := omega) [-hset_if, -Bool.decide_and, hset_ne]
  refine gif_dec (fun a2 => ?_) (fun a2 => ?_)
  · simp (disch := omega) [-hset_if, -Bool.decide_and, hset_ne]
    refine awake_ok ?_
    simp (disch := omega) [-hset_if, -Bool.decide_and, hset_ne]
    exact hr.fin rfl (by omega) hU
  simp (disch := omega) [-hset_if, -Bool.decide_and, hset_ne]
  refine cif_dec (fun a3 => ?_) (fun a3 => ?_)
  · simp (disch := omega) [-hset_if, -Bool.decide_and, hset_ne]
    refine awake_ok ?_
    simp (disch := omega) [-hset_if, -Bool.decide_and, hset_ne]
    exact hr.fin rfl (by omega) hU
  clear hU
  have hb : l.length < 4611686018427387904 := by omega
  simp (disch := omega) [-hset_if, -Bool.decide_and, hset_ne]
  refine AW.while (σ := Nat × Value) (fun s => l.length - s.1) (fun s => [(0, pv), (1, .int .i64 base), (2, .int .i64 limit), (3, .int .i64 now), (9, s.2), (10, .int .i64 s.1)])
    (fun s n1 H1 => n ≤ n1 ∧ (∀ i, i < n → H1 i = H i) ∧ s.1 ≤ l.length ∧ ∃ E, (∀ i, E i → n ≤ i ∧ i < n1) ∧ OwR ⟨Try.prog, w0⟩ H1 n1 E 54 2 Sta.cells s.2 (List.replicate s.1 ⟨false, now - 86400⟩)) (0, .slice (some ⟨new n, 0, none⟩) 0 0) ?_ ?_ ?_
  · simp (disch := omega) [-hset_if, -Bool.decide_and, hset_ne]
  · exact ⟨by omega, fun i hi => by rw [hset_ne (by omega)], by simp, (· = n), fun i hi => by omega, OwR.empty (by omega) (by omega) (hset_same _ _ _)⟩
  rintro ⟨j, v⟩ n1 H1 ⟨g1, g2, g3, E, g4, g5⟩
  dsimp only at g3 g5 ⊢
  have hs1 : SlR ⟨Try.prog, w0⟩ H1 D 5 Load.cells pv l := hs.frame (fun i hi => g2 i (hD i hi))
  simp (disch := omega) [-hset_if, -Bool.decide_and, hset_ne, hs1.lenK]
  refine cif_dec (fun h => ?_) (fun h => ?_)
  · simp (disch := omega) [-hset_if, -Bool.decide_and, hset_ne]
    refine g5.push elemS46 zero54 (by simp) ⟨false, now - 86400⟩ rfl rfl rfl (by simp; omega) (by simp; omega) ?_
    intro v2 n2 H2 D2 b1 b2 b3 b4 b5
    simp (disch := omega) [-hset_if, -Bool.decide_and, hset_ne]
    refine Next.mk (j + 1, v2) (by first | omega | (dsimp only; omega)) (by simp (disch := omega) [-hset_if, -Bool.decide_and, hset_ne]) ⟨by omega, fun i hi => ?_, (by first | omega | (dsimp only; omega)), D2, fun i hi => ⟨?_, b5.lt i hi⟩, ?_⟩
    · rw [b3 i (by omega) (fun hd => by have := g4 i hd; omega), g2 i hi]
    · rcases b4 i hi with c | c
      · exact (g4 i c).1
      · omega
    · dsimp only
      rw [List.replicate_succ']; exact b5
  have hjl : j = l.length := by omega
  subst hjl
  have hD1 : ∀ i, D i → i < n1 := fun i hi => by have := hD i hi; omega
  obtain ⟨st, hst⟩ : ∃ st : List Sta, List.replicate l.length ⟨false, now - 86400⟩ = st := ⟨_, rfl⟩
  have hm : ∀ x ∈ st, x = ⟨false, now - 86400⟩ := fun x hx => by rw [← hst] at hx; exact (List.mem_replicate.1 hx).2
  have hsl : st.length = l.length := by rw [← hst]; simp
  rw [hst] at g5
  clear hst
  have hrd : rdy l st now = 0 := by
    unfold rdy
    rw [if_neg, if_neg]
    · have : st.all (fun x => decide (x.since ≤ now)) = true := by
        rw [List.all_eq_true]; intro x hx; rw [hm x hx]; simp; omega
      rw [this]; simp
    · rintro (e | e | e)
      · exact e hsl
      · exact e ⟨by omega, by omega⟩
      · have : st.all (fun x => decide (0 ≤ x.since ∧ x.since ≤ 6311433599)) = true := by
          rw [List.all_eq_true]; intro x hx; rw [hm x hx]; simp; omega
        rw [this] at e; cases e
  by_cases h0 : chk l = 0
  rotate_left
  · have hV : shV l base limit = (0, 0, chk l) := by unfold shV; rw [if_pos h0]
    have hb1 : (chk l != 0) = true := by simpa using h0
    have hb9 : (chk l == 9) = false := by simpa using chk_ne9
    have hcS : ∀ xs, chS l st now xs = chk l := fun xs => by unfold chS; rw [if_pos h0]
    have hLv : lvV l st base now = (0, chk l) := by unfold lvV; rw [hcS, if_pos h0]
    simp (disch := omega) [-hset_if, -Bool.decide_and, hset_ne]
    refine Shed_ok hb hs1 hD1 ?_
    rw [hV]
    simp (disch := omega) [-hset_if, -Bool.decide_and, hset_ne]
    refine Order_ok hb hs1 hD1 ?_ (fun e => absurd e h0)
    intro _
    simp (disch := omega) [-hset_if, -Bool.decide_and, hset_ne]
    refine Step_ok hb (by omega) hs1 hD1 g5.sl (fun i hi => (g4 i hi).2) ?_ (fun e => absurd (by rw [← hcS]; exact e) h0)
    intro n2 H2 x1 x2 _
    rw [hcS]
    simp (disch := omega) [-hset_if, -Bool.decide_and, hset_ne]
    refine Level_ok hb (by omega) (hs1.frame (fun i hi => x2 i (hD1 i hi))) (fun i hi => by have := hD1 i hi; omega) (g5.sl.frame (fun i hi => x2 i (g4 i hi).2)) (fun i hi => by have := g4 i hi; omega) ?_
    rw [hLv]
    have hU : ∀ i, i < n → H2 i = H i := fun i hi => by rw [x2 i (by omega), g2 i hi]
    simp (disch := omega) [-hset_if, -Bool.decide_and, hset_ne, hb9, hb1]
    refine awake_ok ?_
    simp (disch := omega) [-hset_if, -Bool.decide_and, hset_ne]
    exact hr.fin rfl (by omega) hU
  cases gg : [base, limit].all inB
  · have hV : shV l base limit = (0, 0, 6) := by unfold shV; rw [if_neg (by simp [h0]), if_pos gg]
    have hcS : chS l st now [base, limit] = 6 := by unfold chS; rw [if_neg (by simp [h0]), if_pos gg]
    simp (disch := omega) [-hset_if, -Bool.decide_and, hset_ne]
    refine Shed_ok hb hs1 hD1 ?_
    rw [hV]
    simp (disch := omega) [-hset_if, -Bool.decide_and, hset_ne]
    refine Order_ok hb hs1 hD1 (fun e => absurd h0 e) ?_
    intro _ ov n2 H2 E2 p1 p2 p3 p4
    simp (disch := omega) [-hset_if, -Bool.decide_and, hset_ne]
    refine Step_ok hb (by omega) (hs1.frame (fun i hi => p2 i (hD1 i hi))) (fun i hi => by have := hD1 i hi; omega) (g5.sl.frame (fun i hi => p2 i (g4 i hi).2)) (fun i hi => by have := g4 i hi; omega) ?_ (fun e => by rw [hcS] at e; cases e)
    intro n3 H3 x1 x2 _
    rw [hcS]
    simp (disch := omega) [-hset_if, -Bool.decide_and, hset_ne]
    refine Level_ok hb (by omega) (hs1.frame (fun i hi => by rw [x2 i (by have := hD1 i hi; omega), p2 i (hD1 i hi)])) (fun i hi => by have := hD1 i hi; omega) (g5.sl.frame (fun i hi => by rw [x2 i (by have := g4 i hi; omega), p2 i (g4 i hi).2])) (fun i hi => by have := g4 i hi; omega) ?_
    have hU : ∀ i, i < n → H3 i = H i := fun i hi => by rw [x2 i (by omega), p2 i (by omega), g2 i hi]
    simp (disch := omega) [-hset_if, -Bool.decide_and, hset_ne]
    refine awake_ok ?_
    simp (disch := omega) [-hset_if, -Bool.decide_and, hset_ne]
    exact hr.fin rfl (by omega) hU
  have gb : inB base = true ∧ inB limit = true := by simpa using gg
  have hR := chk_rng h0
  have hol : (ordR l).length = l.length := ordR_len
  have hf : ∀ x ∈ l, ∀ y ∈ st, fre x y now = true := fun x hx y hy => by
    have := hR x hx
    simp only [rngB, decide_eq_true_eq] at this
    rw [hm y hy, fre_on rfl]
    simp; omega
  have hcS : ∀ xs, xs.all inB = true → chS l st now xs = 0 := fun xs hx => by unfold chS; rw [if_neg (by simp [h0]), if_neg (by simp [hx]), hrd]
  have hLv : lvV l st base now = (base, 0) := by
    unfold lvV; rw [hcS _ (by simpa using gb.1), if_neg (by simp), lvl_all hf]; simp
  obtain ⟨q1, q2, q3, q4, q5⟩ := shP_spec (l := l) (base := base) (limit := limit) (ordR l) 0
  have hpre := fun h2 i hi => stp_pre (s := st) (base := base) (limit := limit) (now := now) (m := (shP l base limit 0 (ordR l)).1) h0 hsl (by omega) (fun q hq => q4 q (by omega)) h2 (fun x hx => by rw [hm x hx]) hf (i := i) hi
  have hpre := hpre (fun h2 => by
    by_cases e : (shP l base limit 0 (ordR l)).2 ≤ limit
    · rw [q3, Nat.sub_zero] at e; exact e
    · have := q5 e; omega)
  have hsp := (stp_spec (s := st) (base := base) (limit := limit) (now := now) h0 hsl).1
  have hV : shV l base limit = if (shP l base limit 0 (ordR l)).2 ≤ limit then (((shP l base limit 0 (ordR l)).1 : Int), (shP l base limit 0 (ordR l)).2, 0) else (0, 0, 9) := by unfold shV; rw [if_neg (by simp [h0]), if_neg (by rw [gg]; simp)]
  generalize (shP l base limit 0 (ordR l)).2 = z at *
  generalize (shP l base limit 0 (ordR l)).1 = m at *
  simp (disch := omega) [-hset_if, -Bool.decide_and, hset_ne]
  refine Shed_ok hb hs1 hD1 ?_
  rw [hV]
  by_cases hz : z ≤ limit
  · rw [if_pos hz]
    simp (disch := omega) [-hset_if, -Bool.decide_and, hset_ne]
    refine Order_ok hb hs1 hD1 (fun e => absurd h0 e) ?_
    intro _ ov n2 H2 E2 p1 p2 p3 p4
    simp (disch := omega) [-hset_if, -Bool.decide_and, hset_ne]
    refine Step_ok hb (by omega) (hs1.frame (fun i hi => p2 i (hD1 i hi))) (fun i hi => by have := hD1 i hi; omega) (g5.sl.frame (fun i hi => p2 i (g4 i hi).2)) (fun i hi => by have := g4 i hi; omega) (fun _ _ _ _ e => absurd (hcS _ gg) e) ?_
    intro _ nv n3 H3 E3 x1 x2 x3 x4
    have hs3 : SlR ⟨Try.prog, w0⟩ H3 D 5 Load.cells pv l := hs1.frame (fun i hi => by rw [x2 i (by have := hD1 i hi; omega), p2 i (hD1 i hi)])
    simp (disch := omega) [-hset_if, -Bool.decide_and, hset_ne]
    refine Level_ok hb (by omega) hs3 (fun i hi => by have := hD1 i hi; omega) (g5.sl.frame (fun i hi => by rw [x2 i (by have := g4 i hi; omega), p2 i (g4 i hi).2])) (fun i hi => by have := g4 i hi; omega) ?_
    rw [hLv]
    have hU : ∀ i, i < n → H3 i = H i := fun i hi => by rw [x2 i (by omega), p2 i (by omega), g2 i hi]
    have p5 : OwR ⟨Try.prog, w0⟩ H3 n3 E2 3 1 intC ov (ordR l) := p4.frame (by omega) (fun i hi => x2 i (p4.lt i hi))
    have hlx := x4.sl.lenK
    rw [hsp] at hlx
    simp (disch := omega) [-hset_if, -Bool.decide_and, hset_ne, hs3.lenK, hlx]
    refine AW.while (σ := Nat) (fun j => (ordR l).length - j) (fun j => [(11, .int .i64 (m : Int)), (14, ov), (16, nv), (20, .int .i64 (j : Int))])
      (fun j n4 H4 => n4 = n3 ∧ H4 = H3 ∧ j ≤ (ordR l).length) 0 ?_ ?_ ?_
    · simp (disch := omega) [-hset_if, -Bool.decide_and, hset_ne]
    · exact ⟨rfl, rfl, by omega⟩
    rintro j n4 H4 ⟨rfl, rfl, f1⟩
    simp (disch := omega) [-hset_if, -Bool.decide_and, hset_ne, p5.sl.lenK]
    refine cif_dec (fun hj => ?_) (fun hj => ?_)
    · have e := hpre j (by omega)
      have hki := ordR_mem.1 (at_mem (l := ordR l) (j := j) (by omega))
      have hk1 := hki.1
      have hk2 : at_ (ordR l) (j : Int) < ((stp l st base limit now).length : Int) := by rw [hsp]; exact hki.2
      simp (disch := omega) [-hset_if, -Bool.decide_and, hset_ne, p5.sl.ix elemS24, p5.sl.load0 shp3, x4.sl.ix elemS46, x4.sl.load shp4, x4.sl.load0 shp4, hk1, hk2, e]
      exact Next.mk (j + 1) (by first | omega | (dsimp only; omega)) (by simp (disch := omega) [-hset_if, -Bool.decide_and, hset_ne]) ⟨rfl, rfl, by omega⟩
    · simp (disch := omega) [-hset_if, -Bool.decide_and, hset_ne]
      refine awake_ok ?_
      simp (disch := omega) [-hset_if, -Bool.decide_and, hset_ne]
      exact hr.fin rfl (by omega) hU
  · rw [if_neg hz]
    have hml : m = l.length := by have := q5 hz; omega
    subst hml
    simp (disch := omega) [-hset_if, -Bool.decide_and, hset_ne]
    refine Order_ok hb hs1 hD1 (fun e => absurd h0 e) ?_
    intro _ ov n2 H2 E2 p1 p2 p3 p4
    simp (disch := omega) [-hset_if, -Bool.decide_and, hset_ne]
    refine Step_ok hb (by omega) (hs1.frame (fun i hi => p2 i (hD1 i hi))) (fun i hi => by have := hD1 i hi; omega) (g5.sl.frame (fun i hi => p2 i (g4 i hi).2)) (fun i hi => by have := g4 i hi; omega) (fun _ _ _ _ e => absurd (hcS _ gg) e) ?_
    intro _ nv n3 H3 E3 x1 x2 x3 x4
    have hs3 : SlR ⟨Try.prog, w0⟩ H3 D 5 Load.cells pv l := hs1.frame (fun i hi => by rw [x2 i (by have := hD1 i hi; omega), p2 i (hD1 i hi)])
    simp (disch := omega) [-hset_if, -Bool.decide_and, hset_ne]
    refine Level_ok hb (by omega) hs3 (fun i hi => by have := hD1 i hi; omega) (g5.sl.frame (fun i hi => by rw [x2 i (by have := g4 i hi; omega), p2 i (g4 i hi).2])) (fun i hi => by have := g4 i hi; omega) ?_
    rw [hLv]
    have hU : ∀ i, i < n → H3 i = H i := fun i hi => by rw [x2 i (by omega), p2 i (by omega), g2 i hi]
    have p5 : OwR ⟨Try.prog, w0⟩ H3 n3 E2 3 1 intC ov (ordR l) := p4.frame (by omega) (fun i hi => x2 i (p4.lt i hi))
    have hlx := x4.sl.lenK
    rw [hsp] at hlx
    simp (disch := omega) [-hset_if, -Bool.decide_and, hset_ne, hs3.lenK, hlx]
    refine AW.while (σ := Nat) (fun j => (ordR l).length - j) (fun j => [(11, .int .i64 (l.length : Int)), (14, ov), (16, nv), (20, .int .i64 (j : Int))])
      (fun j n4 H4 => n4 = n3 ∧ H4 = H3 ∧ j ≤ (ordR l).length) 0 ?_ ?_ ?_
    · simp (disch := omega) [-hset_if, -Bool.decide_and, hset_ne]
    · exact ⟨rfl, rfl, by omega⟩
    rintro j n4 H4 ⟨rfl, rfl, f1⟩
    simp (disch := omega) [-hset_if, -Bool.decide_and, hset_ne, p5.sl.lenK]
    refine cif_dec (fun hj => ?_) (fun hj => ?_)
    · have e := hpre j (by omega)
      have hki := ordR_mem.1 (at_mem (l := ordR l) (j := j) (by omega))
      have hk1 := hki.1
      have hk2 : at_ (ordR l) (j : Int) < ((stp l st base limit now).length : Int) := by rw [hsp]; exact hki.2
      simp (disch := omega) [-hset_if, -Bool.decide_and, hset_ne, p5.sl.ix elemS24, p5.sl.load0 shp3, x4.sl.ix elemS46, x4.sl.load shp4, x4.sl.load0 shp4, hk1, hk2, e]
      exact Next.mk (j + 1) (by first | omega | (dsimp only; omega)) (by simp (disch := omega) [-hset_if, -Bool.decide_and, hset_ne]) ⟨rfl, rfl, by omega⟩
    · simp (disch := omega) [-hset_if, -Bool.decide_and, hset_ne]
      refine awake_ok ?_
      simp (disch := omega) [-hset_if, -Bool.decide_and, hset_ne]
      exact hr.fin rfl (by omega) hU
end Go.Aw.S56
