/-
  Chapter 56: what is shed.
-/
import Derived.Test.YtmppccnafhckoaaS56g
import Derived.Test.YtmppccnafhckoaaS56e
namespace Go.Aw.S56
open Go.RowKit Go.Proofs Go.Aw.Tab
set_option linter.unusedSimpArgs false
set_option linter.unusedVariables false
set_option maxRecDepth 10000
set_option maxHeartbeats 1000000
set_option pp.deepTerms false
set_option pp.deepTerms.threshold 4
set_option pp.maxSteps 1500
attribute [local simp] Load.cells Sta.cells intC Num.cells
variable {w0 : World} {n : Nat} {H : Heap} {K : Value → Nat → Heap → Prop} {pv sv ov : Value} {D E F : Nat → Prop} {l : List Load} {s : List Sta} {o : List Int} {base limit : Int}
/-- How many are shed, and what remains. -/
def shP (l : List Load) (base limit : Int) : Nat → List Int → Nat × Int
  | n, [] => (n, base)
  | n, k :: r => if base + sumO l (k :: r) ≤ limit then (n, base + sumO l (k :: r)) else shP l base limit (n + 1) r
theorem shP_hit {m : Nat} (h : base + sumO l o ≤ limit) : shP l base limit m o = (m, base + sumO l o) := by
  cases o with
  | nil => simp [shP, sumO]
  | cons k r => rw [shP, if_pos h]
theorem shP_miss {m : Nat} {k : Int} (h : ¬ base + sumO l (k :: o) ≤ limit) : shP l base limit m (k :: o) = shP l base limit (m + 1) o := by rw [shP, if_neg h]
theorem shP_end {m : Nat} : shP l base limit m [] = (m, base) := rfl
theorem sumP_drop {j : Nat} (h : j < l.length) : sumP (l.drop j) = (at_ l (j : Int)).pw + sumP (l.drop (j + 1)) := by rw [drop_at h, sumP]
theorem sumP_b (hR : ∀ x ∈ l, rngB x = true) (hl : l.length ≤ 64) (j : Nat) : 0 ≤ sumP (l.drop j) ∧ sumP (l.drop j) ≤ 1000000000000 := by
  have := sumP_bound (l := l.drop j) (fun x hx => hR x (List.mem_of_mem_drop hx))
  have h2 : (l.drop j).length ≤ 64 := by simp; omega
  omega
def shT (p : Nat × Int) (limit : Int) : Value := .tuple #[.int .i64 (p.1 : Int), .int .i64 p.2, .bool (decide (p.2 ≤ limit))]
theorem shed_ok (hc : chk l = 0) (hs : SlR ⟨Try.prog, w0⟩ H D 5 Load.cells pv l) (hD : ∀ i, D i → i < n) (hb : -1000000000000 ≤ base ∧ base ≤ 1000000000000)
    (hk : K (.tuple #[.int .i64 ((shP l base limit 0 (ordR l)).1 : Int), .int .i64 (shP l base limit 0 (ordR l)).2, .bool (decide ((shP l base limit 0 (ordR l)).2 ≤ limit))]) n H) : ACall ⟨Try.prog, w0⟩ 45 [pv, .int .i64 base, .int .i64 limit] K n H := by
  refine ACall.res (fun K' hr => ?_) (und_tuple (by simp)) hk
  have hr : Res n H K' (shT (shP l base limit 0 (ordR l)) limit) := hr
  have hl := chk_len hc
  have hR := chk_rng hc
  have hb1 := sumP_b hR hl
  have hsum : sumO l (ordR l) = sumP l := sumO_ordR
  have hb2 := sumO_b (o := ordR l) hR hl (fun k hk => ordR_mem.1 hk) (by rw [ordR_len]; exact hl)
  have hol : (ordR l).length = l.length := ordR_len
  have hbs := hb1 0
  rw [List.drop_zero] at hbs
  obtain ⟨hb3, hb4⟩ := hb
  refine ACall.run Try.func45 rfl Try.ntmps45 Try.results45 (by simp) fun J0 => ?_
  simp (disch := omega) [-hset_if, -Bool.decide_and, hset_ne, hs.lenK]
  refine AW.while (σ := Nat) (fun j => l.length - j) (fun j => [(0, pv), (1, .int .i64 (base + (sumP l - sumP (l.drop j)))), (2, .int .i64 limit), (14, pv), (15, .int .i64 l.length), (16, .int .i64 j)])
    (fun j n1 H1 => n ≤ n1 ∧ (∀ i, i < n → H1 i = H i) ∧ j ≤ l.length) 0 ?_ ?_ ?_
  · simp (disch := omega) [-hset_if, -Bool.decide_and, hset_ne]
  · exact ⟨Nat.le_refl _, fun _ _ => rfl, by omega⟩
  rintro j n1 H1 ⟨g1, g2, g3⟩
  have hs1 : SlR ⟨Try.prog, w0⟩ H1 D 5 Load.cells pv l := hs.frame (fun i hi => g2 i (hD i hi))
  simp (disch := omega) [-hset_if, -Bool.decide_and, hset_ne]
  refine cif_dec (fun h => ?_) (fun h => ?_)
  · have hst := sumP_drop (l := l) (j := j) (by omega)
    have hbj := hb1 j
    have hbk := hb1 (j + 1)
    have hld := at_rng hR (j := j) (by omega)
    simp (disch := omega) [-hset_if, -Bool.decide_and, hset_ne, hs1.ix elemS22, hs1.load0 shp42]
    exact Next.mk (j + 1) (by first | omega | (dsimp only; omega)) (by rw [show base + (sumP l - sumP (l.drop (j + 1))) = base + (sumP l - sumP (l.drop j)) + (at_ l (j : Int)).pw by omega]; simp (disch := omega) [-hset_if, -Bool.decide_and, hset_ne]) ⟨by omega, fun i hi => by rw [hset_ne (by omega)]; exact g2 i hi, by omega⟩
  · rw [List.drop_of_length_le (l := l) (i := j) (by omega), show base + (sumP l - sumP []) = base + sumO l (ordR l) by rw [hsum]; simp [sumP]]
    simp (disch := omega) [-hset_if, -Bool.decide_and, hset_ne]
    refine order_ok hc hs1 (fun i hi => by have := hD i hi; omega) ?_
    intro v n2 H2 E2 f1 f2 f3 f4
    simp (disch := omega) [-hset_if, -Bool.decide_and, hset_ne, f4.sl.lenK]
    refine AW.while (σ := Nat) (fun j => (ordR l).length - j) (fun j => [(0, pv), (1, .int .i64 (base + sumO l ((ordR l).drop j))), (2, .int .i64 limit), (11, .int .i64 j), (26, v), (27, .int .i64 (ordR l).length), (28, .int .i64 j)])
      (fun j n3 H3 => n3 = n2 ∧ H3 = H2 ∧ j ≤ (ordR l).length ∧ Res n H K' (shT (shP l base limit j ((ordR l).drop j)) limit)) 0 ?_ ?_ ?_
    · simp (disch := omega) [-hset_if, -Bool.decide_and, hset_ne]
    · exact ⟨rfl, rfl, by omega, hr⟩
    clear hr
    rintro k n3 H3 ⟨rfl, rfl, f5, hr⟩
    have hs3 : SlR ⟨Try.prog, w0⟩ H3 D 5 Load.cells pv l := hs1.frame (fun i hi => f2 i (by have := hD i hi; omega))
    have hU : ∀ i, i < n → H3 i = H i := fun i hi => by rw [f2 i (by omega), g2 i hi]
    simp (disch := omega) [-hset_if, -Bool.decide_and, hset_ne]
    refine cif_dec (fun h3 => ?_) (fun h3 => ?_)
    · have hst2 := sumO_drop (l := l) (o := ordR l) (j := k) (by omega)
      have hbj := hb2 k
      have hbk := hb2 (k + 1)
      have hki := ordR_mem.1 (at_mem (l := ordR l) (j := k) (by omega))
      have hld := at_rngI hR hki
      simp (disch := omega) [-hset_if, -Bool.decide_and, hset_ne, f4.sl.ix elemS24, f4.sl.load0 shp3]
      refine cif_dec (fun h4 => ?_) (fun h4 => ?_)
      · simp (disch := omega) [-hset_if, -Bool.decide_and, hset_ne]
        rw [shP_hit h4] at hr
        refine hr.fin ?_ (by omega) hU
        rw [shT, decide_eq_true h4]
      · simp (disch := omega) [-hset_if, -Bool.decide_and, hset_ne, hs3.ix elemS22, hs3.load shp2, hki.1, hki.2]
        rw [drop_at (by omega), shP_miss (by rw [← drop_at (by omega)]; exact h4)] at hr
        refine Next.mk (k + 1) (by first | omega | (dsimp only; omega)) (by rw [show base + sumO l ((ordR l).drop (k + 1)) = base + sumO l ((ordR l).drop k) - (at_ l (at_ (ordR l) (k : Int))).pw by omega]; simp (disch := omega) [-hset_if, -Bool.decide_and, hset_ne]) ⟨rfl, rfl, by omega, hr⟩
    · have hkl : k = (ordR l).length := by omega
      rw [List.drop_of_length_le (l := ordR l) (i := k) (by omega)] at hr ⊢
      rw [shP_end] at hr
      simp (disch := omega) [-hset_if, -Bool.decide_and, hset_ne, sumO]
      refine hr.fin ?_ (by omega) hU
      rw [shT]
end Go.Aw.S56
