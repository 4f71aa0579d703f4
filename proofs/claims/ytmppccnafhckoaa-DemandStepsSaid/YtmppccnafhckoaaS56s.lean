/-
  Chapter 56: the statement DemandSteps.
-/
import Derived.Test.YtmppccnafhckoaaS56n
import Derived.Test.YtmppccnafhckoaaS56r
namespace Go.Aw.S56
open Go.RowKit Go.Proofs Go.Aw.Tab
set_option linter.unusedSimpArgs false
set_option linter.unusedVariables false
set_option maxRecDepth 10000
set_option maxHeartbeats 1000000
set_option pp.deepTerms false
set_option pp.deepTerms.threshold 4
set_option pp.maxSteps 1500
attribute [local simp] Load.cells Sta.cells intC Num.cells range_get
variable {w0 : World} {n : Nat} {H : Heap} {K : Value → Nat → Heap → Prop} {pv sv ov : Value} {D E F : Nat → Prop} {l : List Load} {s : List Sta} {base limit now : Int}
theorem chS_bad {xs : List Int} (h : chk l ≠ 0) : chS l s now xs = chk l := by unfold chS; rw [if_pos h]
theorem chS_six {xs : List Int} (h : chk l = 0) (h2 : xs.all inB = false) : chS l s now xs = 6 := by unfold chS; rw [if_neg (by simp [h]), if_pos h2]
theorem chS_rdy {xs : List Int} (h : chk l = 0) (h2 : xs.all inB = true) : chS l s now xs = rdy l s now := by unfold chS; rw [if_neg (by simp [h]), if_neg (by simp [h2])]
theorem pwV_bad (h : chk l ≠ 0) : pwV l s = (0, chk l) := by unfold pwV; rw [if_pos h]
theorem pwV_len (h : chk l = 0) (hq : s.length ≠ l.length) : pwV l s = (0, 1) := by unfold pwV; rw [if_neg (by simp [h]), if_pos hq]
theorem pwV_ok (h : chk l = 0) (hq : s.length = l.length) : pwV l s = (pwS l s, 0) := by unfold pwV; rw [if_neg (by simp [h]), if_neg (by simp [hq])]
theorem lvV_bad {x : Int} (h : chS l s now [base] = x) (hx : x ≠ 0) : lvV l s base now = (0, x) := by unfold lvV; rw [h, if_pos hx]
theorem lvV_ok (h : chS l s now [base] = 0) : lvV l s base now = (base + lvl now l s, 0) := by unfold lvV; rw [h, if_neg (by simp)]
theorem stepsA (hs : SlR ⟨Try.prog, w0⟩ H D 5 Load.cells pv l) (hD : ∀ i, D i → i < n) (ht : SlR ⟨Try.prog, w0⟩ H E 2 Sta.cells sv s) (hE : ∀ i, E i → i < n) (h0 : chk l ≠ 0) (hr : Res n H K (.bool true)) : ACall ⟨Try.prog, w0⟩ 9 [pv, sv, .int .i64 base, .int .i64 limit, .int .i64 now] K n H := by
  have hst := chS_bad (s := s) (now := now) (xs := [base, limit]) h0
  have hne := h0
  have hPw := pwV_bad (s := s) h0
  have hLv := lvV_bad (base := base) (chS_bad (s := s) (now := now) (xs := [base]) h0) h0
  have hb1 : (chk l != 0) = true := by simpa using h0
  refine ACall.run Try.func9 rfl Try.ntmps9 Try.results9 (by simp) fun J0 => ?_
  simp (disch := omega) [-hset_if, -Bool.decide_and, hset_ne, hs.lenK, ht.lenK]
  refine gif_dec (fun h1 => ?_) (fun h1 => ?_)
  · simp (disch := omega) [-hset_if, -Bool.decide_and, hset_ne]
    refine awake_ok ?_
    simp (disch := omega) [-hset_if, -Bool.decide_and, hset_ne]
    exact hr.fin rfl (by omega) (fun i hi => by simp (disch := omega) only [hset_ne])
  simp (disch := omega) [-hset_if, -Bool.decide_and, hset_ne, hs.lenK, ht.lenK]
  refine cif_dec (fun h2 => ?_) (fun h2 => ?_)
  · simp (disch := omega) [-hset_if, -Bool.decide_and, hset_ne]
    refine awake_ok ?_
    simp (disch := omega) [-hset_if, -Bool.decide_and, hset_ne]
    exact hr.fin rfl (by omega) (fun i hi => by simp (disch := omega) only [hset_ne])
  have hb : l.length < 4611686018427387904 := by omega
  have hb2 : s.length ≤ 70 := by omega
  simp (disch := omega) [-hset_if, -Bool.decide_and, hset_ne]
  refine ours_ok ht hE hb2 ?_
  intro v1 n1 H1 E1 f1 f2 f3 f4
  have hf1 : ∀ i, i < n → H1 i = H i := f2
  simp (disch := omega) [-hset_if, -Bool.decide_and, hset_ne]
  refine Step_ok hb hb2 (hs.frame (fun i hi => hf1 i (hD i hi))) (fun i hi => by have := hD i hi; omega) f4.sl (fun i hi => (f3 i hi).2) ?_ ?_
  rotate_left
  · intro e
    exact absurd e (by rw [hst]; exact hne)
  intro n2 H2 g1 g2 _
  rw [hst]
  have hf2 : ∀ i, i < n → H2 i = H i := fun i hi => by rw [g2 i (by omega), hf1 i hi]
  have hn2 : n ≤ n2 := by omega
  simp (disch := omega) [-hset_if, -Bool.decide_and, hset_ne]
  refine ours_ok (ht.frame (fun i hi => hf2 i (hE i hi))) (fun i hi => by have := hE i hi; omega) hb2 ?_
  intro v3 n3 H3 E3 b1 b2 b3 b4
  have hf3 : ∀ i, i < n → H3 i = H i := fun i hi => by rw [b2 i (by omega), hf2 i hi]
  simp (disch := omega) [-hset_if, -Bool.decide_and, hset_ne]
  refine Power_ok hb (hs.frame (fun i hi => hf3 i (hD i hi))) (fun i hi => by have := hD i hi; omega) b4.sl (fun i hi => (b3 i hi).2) ?_
  rw [hPw]
  simp (disch := omega) [-hset_if, -Bool.decide_and, hset_ne]
  refine ours_ok (ht.frame (fun i hi => hf3 i (hE i hi))) (fun i hi => by have := hE i hi; omega) hb2 ?_
  intro v4 n4 H4 E4 c1 c2 c3 c4
  have hf4 : ∀ i, i < n → H4 i = H i := fun i hi => by rw [c2 i (by omega), hf3 i hi]
  have hs4 : SlR ⟨Try.prog, w0⟩ H4 D 5 Load.cells pv l := hs.frame (fun i hi => hf4 i (hD i hi))
  have ht4 : SlR ⟨Try.prog, w0⟩ H4 E 2 Sta.cells sv s := ht.frame (fun i hi => hf4 i (hE i hi))
  have hD4 : ∀ i, D i → i < n4 := fun i hi => by have := hD i hi; omega
  have hE4 : ∀ i, E i → i < n4 := fun i hi => by have := hE i hi; omega
  simp (disch := omega) [-hset_if, -Bool.decide_and, hset_ne]
  refine Level_ok hb (by omega) hs4 hD4 c4.sl (fun i hi => (c3 i hi).2) ?_
  rw [hLv]
  simp (disch := omega) [-hset_if, -Bool.decide_and, hset_ne]
  refine checkR_ok hs4 hD4 hb ?_
  simp (disch := omega) [-hset_if, -Bool.decide_and, hset_ne, hb1]
  refine awake_ok ?_
  simp (disch := omega) [-hset_if, -Bool.decide_and, hset_ne]
  exact hr.fin rfl (by omega) hf4
theorem stepsB1t1 (hs : SlR ⟨Try.prog, w0⟩ H D 5 Load.cells pv l) (hD : ∀ i, D i → i < n) (ht : SlR ⟨Try.prog, w0⟩ H E 2 Sta.cells sv s) (hE : ∀ i, E i → i < n) (h0 : chk l = 0) (gb : inB base = false) (gl : inB limit = true) (hrz : rdy l s now = 0) (hq : s.length = l.length) (hr : Res n H K (.bool true)) : ACall ⟨Try.prog, w0⟩ 9 [pv, sv, .int .i64 base, .int .i64 limit, .int .i64 now] K n H := by
  have hst := chS_six (s := s) (now := now) (xs := [base, limit]) h0 (by simp [gb])
  have hne : (6 : Int) ≠ 0 := by decide
  have hLv := lvV_bad (base := base) (chS_six (s := s) (now := now) (xs := [base]) h0 (by simp [gb])) (by decide)
  have hPw := pwV_ok h0 hq
  have hqn : ((s.length : Int) != (l.length : Int)) = false := by simp [hq]
  have hqe : ((s.length : Int) == (l.length : Int)) = true := by simp [hq]
  have hR := chk_rng h0
  have hl := chk_len h0
  refine ACall.run Try.func9 rfl Try.ntmps9 Try.results9 (by simp) fun J0 => ?_
  simp (disch := omega) [-hset_if, -Bool.decide_and, hset_ne, hs.lenK, ht.lenK]
  refine gif_dec (fun h1 => ?_) (fun h1 => ?_)
  · simp (disch := omega) [-hset_if, -Bool.decide_and, hset_ne]
    refine awake_ok ?_
    simp (disch := omega) [-hset_if, -Bool.decide_and, hset_ne]
    exact hr.fin rfl (by omega) (fun i hi => by simp (disch := omega) only [hset_ne])
  simp (disch := omega) [-hset_if, -Bool.decide_and, hset_ne, hs.lenK, ht.lenK]
  refine cif_dec (fun h2 => ?_) (fun h2 => ?_)
  · simp (disch := omega) [-hset_if, -Bool.decide_and, hset_ne]
    refine awake_ok ?_
    simp (disch := omega) [-hset_if, -Bool.decide_and, hset_ne]
    exact hr.fin rfl (by omega) (fun i hi => by simp (disch := omega) only [hset_ne])
  have hb : l.length < 4611686018427387904 := by omega
  have hb2 : s.length ≤ 70 := by omega
  simp (disch := omega) [-hset_if, -Bool.decide_and, hset_ne]
  refine ours_ok ht hE hb2 ?_
  intro v1 n1 H1 E1 f1 f2 f3 f4
  have hf1 : ∀ i, i < n → H1 i = H i := f2
  simp (disch := omega) [-hset_if, -Bool.decide_and, hset_ne]
  refine Step_ok hb hb2 (hs.frame (fun i hi => hf1 i (hD i hi))) (fun i hi => by have := hD i hi; omega) f4.sl (fun i hi => (f3 i hi).2) ?_ ?_
  rotate_left
  · intro e
    exact absurd e (by rw [hst]; exact hne)
  intro n2 H2 g1 g2 _
  rw [hst]
  have hf2 : ∀ i, i < n → H2 i = H i := fun i hi => by rw [g2 i (by omega), hf1 i hi]
  have hn2 : n ≤ n2 := by omega
  simp (disch := omega) [-hset_if, -Bool.decide_and, hset_ne]
  refine ours_ok (ht.frame (fun i hi => hf2 i (hE i hi))) (fun i hi => by have := hE i hi; omega) hb2 ?_
  intro v3 n3 H3 E3 b1 b2 b3 b4
  have hf3 : ∀ i, i < n → H3 i = H i := fun i hi => by rw [b2 i (by omega), hf2 i hi]
  simp (disch := omega) [-hset_if, -Bool.decide_and, hset_ne]
  refine Power_ok hb (hs.frame (fun i hi => hf3 i (hD i hi))) (fun i hi => by have := hD i hi; omega) b4.sl (fun i hi => (b3 i hi).2) ?_
  rw [hPw]
  simp (disch := omega) [-hset_if, -Bool.decide_and, hset_ne]
  refine ours_ok (ht.frame (fun i hi => hf3 i (hE i hi))) (fun i hi => by have := hE i hi; omega) hb2 ?_
  intro v4 n4 H4 E4 c1 c2 c3 c4
  have hf4 : ∀ i, i < n → H4 i = H i := fun i hi => by rw [c2 i (by omega), hf3 i hi]
  have hs4 : SlR ⟨Try.prog, w0⟩ H4 D 5 Load.cells pv l := hs.frame (fun i hi => hf4 i (hD i hi))
  have ht4 : SlR ⟨Try.prog, w0⟩ H4 E 2 Sta.cells sv s := ht.frame (fun i hi => hf4 i (hE i hi))
  have hD4 : ∀ i, D i → i < n4 := fun i hi => by have := hD i hi; omega
  have hE4 : ∀ i, E i → i < n4 := fun i hi => by have := hE i hi; omega
  simp (disch := omega) [-hset_if, -Bool.decide_and, hset_ne]
  refine Level_ok hb (by omega) hs4 hD4 c4.sl (fun i hi => (c3 i hi).2) ?_
  rw [hLv]
  simp (disch := omega) [-hset_if, -Bool.decide_and, hset_ne]
  refine checkR_ok hs4 hD4 hb ?_
  rw [h0]
  simp (disch := omega) [-hset_if, -Bool.decide_and, hset_ne, hs.lenK, ht.lenK, hqn, hqe]
  refine powerR_ok hs4 ht4 hR hl hq ?_
  simp (disch := omega) [-hset_if, -Bool.decide_and, hset_ne]
  refine ready_ok hs4 ht4 hb (by omega) ?_
  rw [hrz]
  simp (disch := omega) [-hset_if, -Bool.decide_and, hset_ne]
  refine inside_ok ?_
  rw [gb]
  simp (disch := omega) [-hset_if, -Bool.decide_and, hset_ne]
  refine inside_ok ?_
  rw [gl]
  simp (disch := omega) [-hset_if, -Bool.decide_and, hset_ne]
  refine awake_ok ?_
  simp (disch := omega) [-hset_if, -Bool.decide_and, hset_ne]
  exact hr.fin rfl (by omega) hf4
theorem stepsB1t0 (hs : SlR ⟨Try.prog, w0⟩ H D 5 Load.cells pv l) (hD : ∀ i, D i → i < n) (ht : SlR ⟨Try.prog, w0⟩ H E 2 Sta.cells sv s) (hE : ∀ i, E i → i < n) (h0 : chk l = 0) (gb : inB base = false) (gl : inB limit = true) (hrn : (rdy l s now != 0) = true) (hq : s.length = l.length) (hr : Res n H K (.bool true)) : ACall ⟨Try.prog, w0⟩ 9 [pv, sv, .int .i64 base, .int .i64 limit, .int .i64 now] K n H := by
  have hst := chS_six (s := s) (now := now) (xs := [base, limit]) h0 (by simp [gb])
  have hne : (6 : Int) ≠ 0 := by decide
  have hLv := lvV_bad (base := base) (chS_six (s := s) (now := now) (xs := [base]) h0 (by simp [gb])) (by decide)
  have hPw := pwV_ok h0 hq
  have hqn : ((s.length : Int) != (l.length : Int)) = false := by simp [hq]
  have hqe : ((s.length : Int) == (l.length : Int)) = true := by simp [hq]
  have hR := chk_rng h0
  have hl := chk_len h0
  refine ACall.run Try.func9 rfl Try.ntmps9 Try.results9 (by simp) fun J0 => ?_
  simp (disch := omega) [-hset_if, -Bool.decide_and, hset_ne, hs.lenK, ht.lenK]
  refine gif_dec (fun h1 => ?_) (fun h1 => ?_)
  · simp (disch := omega) [-hset_if, -Bool.decide_and, hset_ne]
    refine awake_ok ?_
    simp (disch := omega) [-hset_if, -Bool.decide_and, hset_ne]
    exact hr.fin rfl (by omega) (fun i hi => by simp (disch := omega) only [hset_ne])
  simp (disch := omega) [-hset_if, -Bool.decide_and, hset_ne, hs.lenK, ht.lenK]
  refine cif_dec (fun h2 => ?_) (fun h2 => ?_)
  · simp (disch := omega) [-hset_if, -Bool.decide_and, hset_ne]
    refine awake_ok ?_
    simp (disch := omega) [-hset_if, -Bool.decide_and, hset_ne]
    exact hr.fin rfl (by omega) (fun i hi => by simp (disch := omega) only [hset_ne])
  have hb : l.length < 4611686018427387904 := by omega
  have hb2 : s.length ≤ 70 := by omega
  simp (disch := omega) [-hset_if, -Bool.decide_and, hset_ne]
  refine ours_ok ht hE hb2 ?_
  intro v1 n1 H1 E1 f1 f2 f3 f4
  have hf1 : ∀ i, i < n → H1 i = H i := f2
  simp (disch := omega) [-hset_if, -Bool.decide_and, hset_ne]
  refine Step_ok hb hb2 (hs.frame (fun i hi => hf1 i (hD i hi))) (fun i hi => by have := hD i hi; omega) f4.sl (fun i hi => (f3 i hi).2) ?_ ?_
  rotate_left
  · intro e
    exact absurd e (by rw [hst]; exact hne)
  intro n2 H2 g1 g2 _
  rw [hst]
  have hf2 : ∀ i, i < n → H2 i = H i := fun i hi => by rw [g2 i (by omega), hf1 i hi]
  have hn2 : n ≤ n2 := by omega
  simp (disch := omega) [-hset_if, -Bool.decide_and, hset_ne]
  refine ours_ok (ht.frame (fun i hi => hf2 i (hE i hi))) (fun i hi => by have := hE i hi; omega) hb2 ?_
  intro v3 n3 H3 E3 b1 b2 b3 b4
  have hf3 : ∀ i, i < n → H3 i = H i := fun i hi => by rw [b2 i (by omega), hf2 i hi]
  simp (disch := omega) [-hset_if, -Bool.decide_and, hset_ne]
  refine Power_ok hb (hs.frame (fun i hi => hf3 i (hD i hi))) (fun i hi => by have := hD i hi; omega) b4.sl (fun i hi => (b3 i hi).2) ?_
  rw [hPw]
  simp (disch := omega) [-hset_if, -Bool.decide_and, hset_ne]
  refine ours_ok (ht.frame (fun i hi => hf3 i (hE i hi))) (fun i hi => by have := hE i hi; omega) hb2 ?_
  intro v4 n4 H4 E4 c1 c2 c3 c4
  have hf4 : ∀ i, i < n → H4 i = H i := fun i hi => by rw [c2 i (by omega), hf3 i hi]
  have hs4 : SlR ⟨Try.prog, w0⟩ H4 D 5 Load.cells pv l := hs.frame (fun i hi => hf4 i (hD i hi))
  have ht4 : SlR ⟨Try.prog, w0⟩ H4 E 2 Sta.cells sv s := ht.frame (fun i hi => hf4 i (hE i hi))
  have hD4 : ∀ i, D i → i < n4 := fun i hi => by have := hD i hi; omega
  have hE4 : ∀ i, E i → i < n4 := fun i hi => by have := hE i hi; omega
  simp (disch := omega) [-hset_if, -Bool.decide_and, hset_ne]
  refine Level_ok hb (by omega) hs4 hD4 c4.sl (fun i hi => (c3 i hi).2) ?_
  rw [hLv]
  simp (disch := omega) [-hset_if, -Bool.decide_and, hset_ne]
  refine checkR_ok hs4 hD4 hb ?_
  rw [h0]
  simp (disch := omega) [-hset_if, -Bool.decide_and, hset_ne, hs.lenK, ht.lenK, hqn, hqe]
  refine powerR_ok hs4 ht4 hR hl hq ?_
  simp (disch := omega) [-hset_if, -Bool.decide_and, hset_ne]
  refine ready_ok hs4 ht4 hb (by omega) ?_
  simp (disch := omega) [-hset_if, -Bool.decide_and, hset_ne]
  refine inside_ok ?_
  rw [gb]
  simp (disch := omega) [-hset_if, -Bool.decide_and, hset_ne]
  refine inside_ok ?_
  rw [gl]
  simp (disch := omega) [-hset_if, -Bool.decide_and, hset_ne, hrn]
  refine awake_ok ?_
  simp (disch := omega) [-hset_if, -Bool.decide_and, hset_ne, hrn]
  exact hr.fin rfl (by omega) hf4
theorem stepsB1f1 (hs : SlR ⟨Try.prog, w0⟩ H D 5 Load.cells pv l) (hD : ∀ i, D i → i < n) (ht : SlR ⟨Try.prog, w0⟩ H E 2 Sta.cells sv s) (hE : ∀ i, E i → i < n) (h0 : chk l = 0) (gb : inB base = false) (gl : inB limit = false) (hrz : rdy l s now = 0) (hq : s.length = l.length) (hr : Res n H K (.bool true)) : ACall ⟨Try.prog, w0⟩ 9 [pv, sv, .int .i64 base, .int .i64 limit, .int .i64 now] K n H := by
  have hst := chS_six (s := s) (now := now) (xs := [base, limit]) h0 (by simp [gb])
  have hne : (6 : Int) ≠ 0 := by decide
  have hLv := lvV_bad (base := base) (chS_six (s := s) (now := now) (xs := [base]) h0 (by simp [gb])) (by decide)
  have hPw := pwV_ok h0 hq
  have hqn : ((s.length : Int) != (l.length : Int)) = false := by simp [hq]
  have hqe : ((s.length : Int) == (l.length : Int)) = true := by simp [hq]
  have hR := chk_rng h0
  have hl := chk_len h0
  refine ACall.run Try.func9 rfl Try.ntmps9 Try.results9 (by simp) fun J0 => ?_
  simp (disch := omega) [-hset_if, -Bool.decide_and, hset_ne, hs.lenK, ht.lenK]
  refine gif_dec (fun h1 => ?_) (fun h1 => ?_)
  · simp (disch := omega) [-hset_if, -Bool.decide_and, hset_ne]
    refine awake_ok ?_
    simp (disch := omega) [-hset_if, -Bool.decide_and, hset_ne]
    exact hr.fin rfl (by omega) (fun i hi => by simp (disch := omega) only [hset_ne])
  simp (disch := omega) [-hset_if, -Bool.decide_and, hset_ne, hs.lenK, ht.lenK]
  refine cif_dec (fun h2 => ?_) (fun h2 => ?_)
  · simp (disch := omega) [-hset_if, -Bool.decide_and, hset_ne]
    refine awake_ok ?_
    simp (disch := omega) [-hset_if, -Bool.decide_and, hset_ne]
    exact hr.fin rfl (by omega) (fun i hi => by simp (disch := omega) only [hset_ne])
  have hb : l.length < 4611686018427387904 := by omega
  have hb2 : s.length ≤ 70 := by omega
  simp (disch := omega) [-hset_if, -Bool.decide_and, hset_ne]
  refine ours_ok ht hE hb2 ?_
  intro v1 n1 H1 E1 f1 f2 f3 f4
  have hf1 : ∀ i, i < n → H1 i = H i := f2
  simp (disch := omega) [-hset_if, -Bool.decide_and, hset_ne]
  refine Step_ok hb hb2 (hs.frame (fun i hi => hf1 i (hD i hi))) (fun i hi => by have := hD i hi; omega) f4.sl (fun i hi => (f3 i hi).2) ?_ ?_
  rotate_left
  · intro e
    exact absurd e (by rw [hst]; exact hne)
  intro n2 H2 g1 g2 _
  rw [hst]
  have hf2 : ∀ i, i < n → H2 i = H i := fun i hi => by rw [g2 i (by omega), hf1 i hi]
  have hn2 : n ≤ n2 := by omega
  simp (disch := omega) [-hset_if, -Bool.decide_and, hset_ne]
  refine ours_ok (ht.frame (fun i hi => hf2 i (hE i hi))) (fun i hi => by have := hE i hi; omega) hb2 ?_
  intro v3 n3 H3 E3 b1 b2 b3 b4
  have hf3 : ∀ i, i < n → H3 i = H i := fun i hi => by rw [b2 i (by omega), hf2 i hi]
  simp (disch := omega) [-hset_if, -Bool.decide_and, hset_ne]
  refine Power_ok hb (hs.frame (fun i hi => hf3 i (hD i hi))) (fun i hi => by have := hD i hi; omega) b4.sl (fun i hi => (b3 i hi).2) ?_
  rw [hPw]
  simp (disch := omega) [-hset_if, -Bool.decide_and, hset_ne]
  refine ours_ok (ht.frame (fun i hi => hf3 i (hE i hi))) (fun i hi => by have := hE i hi; omega) hb2 ?_
  intro v4 n4 H4 E4 c1 c2 c3 c4
  have hf4 : ∀ i, i < n → H4 i = H i := fun i hi => by rw [c2 i (by omega), hf3 i hi]
  have hs4 : SlR ⟨Try.prog, w0⟩ H4 D 5 Load.cells pv l := hs.frame (fun i hi => hf4 i (hD i hi))
  have ht4 : SlR ⟨Try.prog, w0⟩ H4 E 2 Sta.cells sv s := ht.frame (fun i hi => hf4 i (hE i hi))
  have hD4 : ∀ i, D i → i < n4 := fun i hi => by have := hD i hi; omega
  have hE4 : ∀ i, E i → i < n4 := fun i hi => by have := hE i hi; omega
  simp (disch := omega) [-hset_if, -Bool.decide_and, hset_ne]
  refine Level_ok hb (by omega) hs4 hD4 c4.sl (fun i hi => (c3 i hi).2) ?_
  rw [hLv]
  simp (disch := omega) [-hset_if, -Bool.decide_and, hset_ne]
  refine checkR_ok hs4 hD4 hb ?_
  rw [h0]
  simp (disch := omega) [-hset_if, -Bool.decide_and, hset_ne, hs.lenK, ht.lenK, hqn, hqe]
  refine powerR_ok hs4 ht4 hR hl hq ?_
  simp (disch := omega) [-hset_if, -Bool.decide_and, hset_ne]
  refine ready_ok hs4 ht4 hb (by omega) ?_
  rw [hrz]
  simp (disch := omega) [-hset_if, -Bool.decide_and, hset_ne]
  refine inside_ok ?_
  rw [gb]
  simp (disch := omega) [-hset_if, -Bool.decide_and, hset_ne]
  refine inside_ok ?_
  rw [gl]
  simp (disch := omega) [-hset_if, -Bool.decide_and, hset_ne]
  refine awake_ok ?_
  simp (disch := omega) [-hset_if, -Bool.decide_and, hset_ne]
  exact hr.fin rfl (by omega) hf4
theorem stepsB1f0 (hs : SlR ⟨Try.prog, w0⟩ H D 5 Load.cells pv l) (hD : ∀ i, D i → i < n) (ht : SlR ⟨Try.prog, w0⟩ H E 2 Sta.cells sv s) (hE : ∀ i, E i → i < n) (h0 : chk l = 0) (gb : inB base = false) (gl : inB limit = false) (hrn : (rdy l s now != 0) = true) (hq : s.length = l.length) (hr : Res n H K (.bool true)) : ACall ⟨Try.prog, w0⟩ 9 [pv, sv, .int .i64 base, .int .i64 limit, .int .i64 now] K n H := by
  have hst := chS_six (s := s) (now := now) (xs := [base, limit]) h0 (by simp [gb])
  have hne : (6 : Int) ≠ 0 := by decide
  have hLv := lvV_bad (base := base) (chS_six (s := s) (now := now) (xs := [base]) h0 (by simp [gb])) (by decide)
  have hPw := pwV_ok h0 hq
  have hqn : ((s.length : Int) != (l.length : Int)) = false := by simp [hq]
  have hqe : ((s.length : Int) == (l.length : Int)) = true := by simp [hq]
  have hR := chk_rng h0
  have hl := chk_len h0
  refine ACall.run Try.func9 rfl Try.ntmps9 Try.results9 (by simp) fun J0 => ?_
  simp (disch := omega) [-hset_if, -Bool.decide_and, hset_ne, hs.lenK, ht.lenK]
  refine gif_dec (fun h1 => ?_) (fun h1 => ?_)
  · simp (disch := omega) [-hset_if, -Bool.decide_and, hset_ne]
    refine awake_ok ?_
    simp (disch := omega) [-hset_if, -Bool.decide_and, hset_ne]
    exact hr.fin rfl (by omega) (fun i hi => by simp (disch := omega) only [hset_ne])
  simp (disch := omega) [-hset_if, -Bool.decide_and, hset_ne, hs.lenK, ht.lenK]
  refine cif_dec (fun h2 => ?_) (fun h2 => ?_)
  · simp (disch := omega) [-hset_if, -Bool.decide_and, hset_ne]
    refine awake_ok ?_
    simp (disch := omega) [-hset_if, -Bool.decide_and, hset_ne]
    exact hr.fin rfl (by omega) (fun i hi => by simp (disch := omega) only [hset_ne])
  have hb : l.length < 4611686018427387904 := by omega
  have hb2 : s.length ≤ 70 := by omega
  simp (disch := omega) [-hset_if, -Bool.decide_and, hset_ne]
  refine ours_ok ht hE hb2 ?_
  intro v1 n1 H1 E1 f1 f2 f3 f4
  have hf1 : ∀ i, i < n → H1 i = H i := f2
  simp (disch := omega) [-hset_if, -Bool.decide_and, hset_ne]
  refine Step_ok hb hb2 (hs.frame (fun i hi => hf1 i (hD i hi))) (fun i hi => by have := hD i hi; omega) f4.sl (fun i hi => (f3 i hi).2) ?_ ?_
  rotate_left
  · intro e
    exact absurd e (by rw [hst]; exact hne)
  intro n2 H2 g1 g2 _
  rw [hst]
  have hf2 : ∀ i, i < n → H2 i = H i := fun i hi => by rw [g2 i (by omega), hf1 i hi]
  have hn2 : n ≤ n2 := by omega
  simp (disch := omega) [-hset_if, -Bool.decide_and, hset_ne]
  refine ours_ok (ht.frame (fun i hi => hf2 i (hE i hi))) (fun i hi => by have := hE i hi; omega) hb2 ?_
  intro v3 n3 H3 E3 b1 b2 b3 b4
  have hf3 : ∀ i, i < n → H3 i = H i := fun i hi => by rw [b2 i (by omega), hf2 i hi]
  simp (disch := omega) [-hset_if, -Bool.decide_and, hset_ne]
  refine Power_ok hb (hs.frame (fun i hi => hf3 i (hD i hi))) (fun i hi => by have := hD i hi; omega) b4.sl (fun i hi => (b3 i hi).2) ?_
  rw [hPw]
  simp (disch := omega) [-hset_if, -Bool.decide_and, hset_ne]
  refine ours_ok (ht.frame (fun i hi => hf3 i (hE i hi))) (fun i hi => by have := hE i hi; omega) hb2 ?_
  intro v4 n4 H4 E4 c1 c2 c3 c4
  have hf4 : ∀ i, i < n → H4 i = H i := fun i hi => by rw [c2 i (by omega), hf3 i hi]
  have hs4 : SlR ⟨Try.prog, w0⟩ H4 D 5 Load.cells pv l := hs.frame (fun i hi => hf4 i (hD i hi))
  have ht4 : SlR ⟨Try.prog, w0⟩ H4 E 2 Sta.cells sv s := ht.frame (fun i hi => hf4 i (hE i hi))
  have hD4 : ∀ i, D i → i < n4 := fun i hi => by have := hD i hi; omega
  have hE4 : ∀ i, E i → i < n4 := fun i hi => by have := hE i hi; omega
  simp (disch := omega) [-hset_if, -Bool.decide_and, hset_ne]
  refine Level_ok hb (by omega) hs4 hD4 c4.sl (fun i hi => (c3 i hi).2) ?_
  rw [hLv]
  simp (disch := omega) [-hset_if, -Bool.decide_and, hset_ne]
  refine checkR_ok hs4 hD4 hb ?_
  rw [h0]
  simp (disch := omega) [-hset_if, -Bool.decide_and, hset_ne, hs.lenK, ht.lenK, hqn, hqe]
  refine powerR_ok hs4 ht4 hR hl hq ?_
  simp (disch := omega) [-hset_if, -Bool.decide_and, hset_ne]
  refine ready_ok hs4 ht4 hb (by omega) ?_
  simp (disch := omega) [-hset_if, -Bool.decide_and, hset_ne]
  refine inside_ok ?_
  rw [gb]
  simp (disch := omega) [-hset_if, -Bool.decide_and, hset_ne]
  refine inside_ok ?_
  rw [gl]
  simp (disch := omega) [-hset_if, -Bool.decide_and, hset_ne, hrn]
  refine awake_ok ?_
  simp (disch := omega) [-hset_if, -Bool.decide_and, hset_ne, hrn]
  exact hr.fin rfl (by omega) hf4
theorem stepsC1t (hs : SlR ⟨Try.prog, w0⟩ H D 5 Load.cells pv l) (hD : ∀ i, D i → i < n) (ht : SlR ⟨Try.prog, w0⟩ H E 2 Sta.cells sv s) (hE : ∀ i, E i → i < n) (h0 : chk l = 0) (gb : inB base = true) (gl : inB limit = true) (hrn : (rdy l s now != 0) = true) (hq : s.length = l.length) (hr : Res n H K (.bool true)) : ACall ⟨Try.prog, w0⟩ 9 [pv, sv, .int .i64 base, .int .i64 limit, .int .i64 now] K n H := by
  have hrn2 : rdy l s now ≠ 0 := by simpa using hrn
  have hst := chS_rdy (s := s) (now := now) (xs := [base, limit]) h0 (by simp [gb, gl])
  have hne := hrn2
  have hLv := lvV_bad (base := base) (chS_rdy (s := s) (now := now) (xs := [base]) h0 (by simp [gb])) hrn2
  have hPw := pwV_ok h0 hq
  have hqn : ((s.length : Int) != (l.length : Int)) = false := by simp [hq]
  have hqe : ((s.length : Int) == (l.length : Int)) = true := by simp [hq]
  have hR := chk_rng h0
  have hl := chk_len h0
  refine ACall.run Try.func9 rfl Try.ntmps9 Try.results9 (by simp) fun J0 => ?_
  simp (disch := omega) [-hset_if, -Bool.decide_and, hset_ne, hs.lenK, ht.lenK]
  refine gif_dec (fun h1 => ?_) (fun h1 => ?_)
  · simp (disch := omega) [-hset_if, -Bool.decide_and, hset_ne]
    refine awake_ok ?_
    simp (disch := omega) [-hset_if, -Bool.decide_and, hset_ne]
    exact hr.fin rfl (by omega) (fun i hi => by simp (disch := omega) only [hset_ne])
  simp (disch := omega) [-hset_if, -Bool.decide_and, hset_ne, hs.lenK, ht.lenK]
  refine cif_dec (fun h2 => ?_) (fun h2 => ?_)
  · simp (disch := omega) [-hset_if, -Bool.decide_and, hset_ne]
    refine awake_ok ?_
    simp (disch := omega) [-hset_if, -Bool.decide_and, hset_ne]
    exact hr.fin rfl (by omega) (fun i hi => by simp (disch := omega) only [hset_ne])
  have hb : l.length < 4611686018427387904 := by omega
  have hb2 : s.length ≤ 70 := by omega
  simp (disch := omega) [-hset_if, -Bool.decide_and, hset_ne]
  refine ours_ok ht hE hb2 ?_
  intro v1 n1 H1 E1 f1 f2 f3 f4
  have hf1 : ∀ i, i < n → H1 i = H i := f2
  simp (disch := omega) [-hset_if, -Bool.decide_and, hset_ne]
  refine Step_ok hb hb2 (hs.frame (fun i hi => hf1 i (hD i hi))) (fun i hi => by have := hD i hi; omega) f4.sl (fun i hi => (f3 i hi).2) ?_ ?_
  rotate_left
  · intro e
    exact absurd e (by rw [hst]; exact hne)
  intro n2 H2 g1 g2 _
  rw [hst]
  have hf2 : ∀ i, i < n → H2 i = H i := fun i hi => by rw [g2 i (by omega), hf1 i hi]
  have hn2 : n ≤ n2 := by omega
  simp (disch := omega) [-hset_if, -Bool.decide_and, hset_ne]
  refine ours_ok (ht.frame (fun i hi => hf2 i (hE i hi))) (fun i hi => by have := hE i hi; omega) hb2 ?_
  intro v3 n3 H3 E3 b1 b2 b3 b4
  have hf3 : ∀ i, i < n → H3 i = H i := fun i hi => by rw [b2 i (by omega), hf2 i hi]
  simp (disch := omega) [-hset_if, -Bool.decide_and, hset_ne]
  refine Power_ok hb (hs.frame (fun i hi => hf3 i (hD i hi))) (fun i hi => by have := hD i hi; omega) b4.sl (fun i hi => (b3 i hi).2) ?_
  rw [hPw]
  simp (disch := omega) [-hset_if, -Bool.decide_and, hset_ne]
  refine ours_ok (ht.frame (fun i hi => hf3 i (hE i hi))) (fun i hi => by have := hE i hi; omega) hb2 ?_
  intro v4 n4 H4 E4 c1 c2 c3 c4
  have hf4 : ∀ i, i < n → H4 i = H i := fun i hi => by rw [c2 i (by omega), hf3 i hi]
  have hs4 : SlR ⟨Try.prog, w0⟩ H4 D 5 Load.cells pv l := hs.frame (fun i hi => hf4 i (hD i hi))
  have ht4 : SlR ⟨Try.prog, w0⟩ H4 E 2 Sta.cells sv s := ht.frame (fun i hi => hf4 i (hE i hi))
  have hD4 : ∀ i, D i → i < n4 := fun i hi => by have := hD i hi; omega
  have hE4 : ∀ i, E i → i < n4 := fun i hi => by have := hE i hi; omega
  simp (disch := omega) [-hset_if, -Bool.decide_and, hset_ne]
  refine Level_ok hb (by omega) hs4 hD4 c4.sl (fun i hi => (c3 i hi).2) ?_
  rw [hLv]
  simp (disch := omega) [-hset_if, -Bool.decide_and, hset_ne]
  refine checkR_ok hs4 hD4 hb ?_
  rw [h0]
  simp (disch := omega) [-hset_if, -Bool.decide_and, hset_ne, hs.lenK, ht.lenK, hqn, hqe]
  refine powerR_ok hs4 ht4 hR hl hq ?_
  simp (disch := omega) [-hset_if, -Bool.decide_and, hset_ne]
  refine ready_ok hs4 ht4 hb (by omega) ?_
  simp (disch := omega) [-hset_if, -Bool.decide_and, hset_ne]
  refine inside_ok ?_
  rw [gb]
  simp (disch := omega) [-hset_if, -Bool.decide_and, hset_ne]
  refine inside_ok ?_
  rw [gl]
  simp (disch := omega) [-hset_if, -Bool.decide_and, hset_ne, hrn]
  refine awake_ok ?_
  simp (disch := omega) [-hset_if, -Bool.decide_and, hset_ne, hrn]
  exact hr.fin rfl (by omega) hf4
theorem stepsC1f (hs : SlR ⟨Try.prog, w0⟩ H D 5 Load.cells pv l) (hD : ∀ i, D i → i < n) (ht : SlR ⟨Try.prog, w0⟩ H E 2 Sta.cells sv s) (hE : ∀ i, E i → i < n) (h0 : chk l = 0) (gb : inB base = true) (gl : inB limit = false) (hrn : (rdy l s now != 0) = true) (hq : s.length = l.length) (hr : Res n H K (.bool true)) : ACall ⟨Try.prog, w0⟩ 9 [pv, sv, .int .i64 base, .int .i64 limit, .int .i64 now] K n H := by
  have hrn2 : rdy l s now ≠ 0 := by simpa using hrn
  have hst := chS_six (s := s) (now := now) (xs := [base, limit]) h0 (by simp [gb, gl])
  have hne : (6 : Int) ≠ 0 := by decide
  have hLv := lvV_bad (base := base) (chS_rdy (s := s) (now := now) (xs := [base]) h0 (by simp [gb])) hrn2
  have hPw := pwV_ok h0 hq
  have hqn : ((s.length : Int) != (l.length : Int)) = false := by simp [hq]
  have hqe : ((s.length : Int) == (l.length : Int)) = true := by simp [hq]
  have hR := chk_rng h0
  have hl := chk_len h0
  refine ACall.run Try.func9 rfl Try.ntmps9 Try.results9 (by simp) fun J0 => ?_
  simp (disch := omega) [-hset_if, -Bool.decide_and, hset_ne, hs.lenK, ht.lenK]
  refine gif_dec (fun h1 => ?_) (fun h1 => ?_)
  · simp (disch := omega) [-hset_if, -Bool.decide_and, hset_ne]
    refine awake_ok ?_
    simp (disch := omega) [-hset_if, -Bool.decide_and, hset_ne]
    exact hr.fin rfl (by omega) (fun i hi => by simp (disch := omega) only [hset_ne])
  simp (disch := omega) [-hset_if, -Bool.decide_and, hset_ne, hs.lenK, ht.lenK]
  refine cif_dec (fun h2 => ?_) (fun h2 => ?_)
  · simp (disch := omega) [-hset_if, -Bool.decide_and, hset_ne]
    refine awake_ok ?_
    simp (disch := omega) [-hset_if, -Bool.decide_and, hset_ne]
    exact hr.fin rfl (by omega) (fun i hi => by simp (disch := omega) only [hset_ne])
  have hb : l.length < 4611686018427387904 := by omega
  have hb2 : s.length ≤ 70 := by omega
  simp (disch := omega) [-hset_if, -Bool.decide_and, hset_ne]
  refine ours_ok ht hE hb2 ?_
  intro v1 n1 H1 E1 f1 f2 f3 f4
  have hf1 : ∀ i, i < n → H1 i = H i := f2
  simp (disch := omega) [-hset_if, -Bool.decide_and, hset_ne]
  refine Step_ok hb hb2 (hs.frame (fun i hi => hf1 i (hD i hi))) (fun i hi => by have := hD i hi; omega) f4.sl (fun i hi => (f3 i hi).2) ?_ ?_
  rotate_left
  · intro e
    exact absurd e (by rw [hst]; exact hne)
  intro n2 H2 g1 g2 _
  rw [hst]
  have hf2 : ∀ i, i < n → H2 i = H i := fun i hi => by rw [g2 i (by omega), hf1 i hi]
  have hn2 : n ≤ n2 := by omega
  simp (disch := omega) [-hset_if, -Bool.decide_and, hset_ne]
  refine ours_ok (ht.frame (fun i hi => hf2 i (hE i hi))) (fun i hi => by have := hE i hi; omega) hb2 ?_
  intro v3 n3 H3 E3 b1 b2 b3 b4
  have hf3 : ∀ i, i < n → H3 i = H i := fun i hi => by rw [b2 i (by omega), hf2 i hi]
  simp (disch := omega) [-hset_if, -Bool.decide_and, hset_ne]
  refine Power_ok hb (hs.frame (fun i hi => hf3 i (hD i hi))) (fun i hi => by have := hD i hi; omega) b4.sl (fun i hi => (b3 i hi).2) ?_
  rw [hPw]
  simp (disch := omega) [-hset_if, -Bool.decide_and, hset_ne]
  refine ours_ok (ht.frame (fun i hi => hf3 i (hE i hi))) (fun i hi => by have := hE i hi; omega) hb2 ?_
  intro v4 n4 H4 E4 c1 c2 c3 c4
  have hf4 : ∀ i, i < n → H4 i = H i := fun i hi => by rw [c2 i (by omega), hf3 i hi]
  have hs4 : SlR ⟨Try.prog, w0⟩ H4 D 5 Load.cells pv l := hs.frame (fun i hi => hf4 i (hD i hi))
  have ht4 : SlR ⟨Try.prog, w0⟩ H4 E 2 Sta.cells sv s := ht.frame (fun i hi => hf4 i (hE i hi))
  have hD4 : ∀ i, D i → i < n4 := fun i hi => by have := hD i hi; omega
  have hE4 : ∀ i, E i → i < n4 := fun i hi => by have := hE i hi; omega
  simp (disch := omega) [-hset_if, -Bool.decide_and, hset_ne]
  refine Level_ok hb (by omega) hs4 hD4 c4.sl (fun i hi => (c3 i hi).2) ?_
  rw [hLv]
  simp (disch := omega) [-hset_if, -Bool.decide_and, hset_ne]
  refine checkR_ok hs4 hD4 hb ?_
  rw [h0]
  simp (disch := omega) [-hset_if, -Bool.decide_and, hset_ne, hs.lenK, ht.lenK, hqn, hqe]
  refine powerR_ok hs4 ht4 hR hl hq ?_
  simp (disch := omega) [-hset_if, -Bool.decide_and, hset_ne]
  refine ready_ok hs4 ht4 hb (by omega) ?_
  simp (disch := omega) [-hset_if, -Bool.decide_and, hset_ne]
  refine inside_ok ?_
  rw [gb]
  simp (disch := omega) [-hset_if, -Bool.decide_and, hset_ne]
  refine inside_ok ?_
  rw [gl]
  simp (disch := omega) [-hset_if, -Bool.decide_and, hset_ne, hrn]
  refine awake_ok ?_
  simp (disch := omega) [-hset_if, -Bool.decide_and, hset_ne, hrn]
  exact hr.fin rfl (by omega) hf4
theorem stepsD1f (hs : SlR ⟨Try.prog, w0⟩ H D 5 Load.cells pv l) (hD : ∀ i, D i → i < n) (ht : SlR ⟨Try.prog, w0⟩ H E 2 Sta.cells sv s) (hE : ∀ i, E i → i < n) (h0 : chk l = 0) (gb : inB base = true) (gl : inB limit = false) (hrz : rdy l s now = 0) (hq : s.length = l.length) (hr : Res n H K (.bool true)) : ACall ⟨Try.prog, w0⟩ 9 [pv, sv, .int .i64 base, .int .i64 limit, .int .i64 now] K n H := by
  have hst := chS_six (s := s) (now := now) (xs := [base, limit]) h0 (by simp [gb, gl])
  have hne : (6 : Int) ≠ 0 := by decide
  obtain ⟨_, hI1, hI2⟩ := rdy_spec hrz
  have hLv := lvV_ok (base := base) (show chS l s now [base] = 0 by rw [chS_rdy h0 (by simp [gb]), hrz])
  have hPw := pwV_ok h0 hq
  have hqn : ((s.length : Int) != (l.length : Int)) = false := by simp [hq]
  have hqe : ((s.length : Int) == (l.length : Int)) = true := by simp [hq]
  have hR := chk_rng h0
  have hl := chk_len h0
  refine ACall.run Try.func9 rfl Try.ntmps9 Try.results9 (by simp) fun J0 => ?_
  simp (disch := omega) [-hset_if, -Bool.decide_and, hset_ne, hs.lenK, ht.lenK]
  refine gif_dec (fun h1 => ?_) (fun h1 => ?_)
  · simp (disch := omega) [-hset_if, -Bool.decide_and, hset_ne]
    refine awake_ok ?_
    simp (disch := omega) [-hset_if, -Bool.decide_and, hset_ne]
    exact hr.fin rfl (by omega) (fun i hi => by simp (disch := omega) only [hset_ne])
  simp (disch := omega) [-hset_if, -Bool.decide_and, hset_ne, hs.lenK, ht.lenK]
  refine cif_dec (fun h2 => ?_) (fun h2 => ?_)
  · simp (disch := omega) [-hset_if, -Bool.decide_and, hset_ne]
    refine awake_ok ?_
    simp (disch := omega) [-hset_if, -Bool.decide_and, hset_ne]
    exact hr.fin rfl (by omega) (fun i hi => by simp (disch := omega) only [hset_ne])
  have hb : l.length < 4611686018427387904 := by omega
  have hb2 : s.length ≤ 70 := by omega
  simp (disch := omega) [-hset_if, -Bool.decide_and, hset_ne]
  refine ours_ok ht hE hb2 ?_
  intro v1 n1 H1 E1 f1 f2 f3 f4
  have hf1 : ∀ i, i < n → H1 i = H i := f2
  simp (disch := omega) [-hset_if, -Bool.decide_and, hset_ne]
  refine Step_ok hb hb2 (hs.frame (fun i hi => hf1 i (hD i hi))) (fun i hi => by have := hD i hi; omega) f4.sl (fun i hi => (f3 i hi).2) ?_ ?_
  rotate_left
  · intro e
    exact absurd e (by rw [hst]; exact hne)
  intro n2 H2 g1 g2 _
  rw [hst]
  have hf2 : ∀ i, i < n → H2 i = H i := fun i hi => by rw [g2 i (by omega), hf1 i hi]
  have hn2 : n ≤ n2 := by omega
  simp (disch := omega) [-hset_if, -Bool.decide_and, hset_ne]
  refine ours_ok (ht.frame (fun i hi => hf2 i (hE i hi))) (fun i hi => by have := hE i hi; omega) hb2 ?_
  intro v3 n3 H3 E3 b1 b2 b3 b4
  have hf3 : ∀ i, i < n → H3 i = H i := fun i hi => by rw [b2 i (by omega), hf2 i hi]
  simp (disch := omega) [-hset_if, -Bool.decide_and, hset_ne]
  refine Power_ok hb (hs.frame (fun i hi => hf3 i (hD i hi))) (fun i hi => by have := hD i hi; omega) b4.sl (fun i hi => (b3 i hi).2) ?_
  rw [hPw]
  simp (disch := omega) [-hset_if, -Bool.decide_and, hset_ne]
  refine ours_ok (ht.frame (fun i hi => hf3 i (hE i hi))) (fun i hi => by have := hE i hi; omega) hb2 ?_
  intro v4 n4 H4 E4 c1 c2 c3 c4
  have hf4 : ∀ i, i < n → H4 i = H i := fun i hi => by rw [c2 i (by omega), hf3 i hi]
  have hs4 : SlR ⟨Try.prog, w0⟩ H4 D 5 Load.cells pv l := hs.frame (fun i hi => hf4 i (hD i hi))
  have ht4 : SlR ⟨Try.prog, w0⟩ H4 E 2 Sta.cells sv s := ht.frame (fun i hi => hf4 i (hE i hi))
  have hD4 : ∀ i, D i → i < n4 := fun i hi => by have := hD i hi; omega
  have hE4 : ∀ i, E i → i < n4 := fun i hi => by have := hE i hi; omega
  simp (disch := omega) [-hset_if, -Bool.decide_and, hset_ne]
  refine Level_ok hb (by omega) hs4 hD4 c4.sl (fun i hi => (c3 i hi).2) ?_
  rw [hLv]
  simp (disch := omega) [-hset_if, -Bool.decide_and, hset_ne]
  refine checkR_ok hs4 hD4 hb ?_
  rw [h0]
  simp (disch := omega) [-hset_if, -Bool.decide_and, hset_ne, hs.lenK, ht.lenK, hqn, hqe]
  refine powerR_ok hs4 ht4 hR hl hq ?_
  simp (disch := omega) [-hset_if, -Bool.decide_and, hset_ne]
  refine ready_ok hs4 ht4 hb (by omega) ?_
  rw [hrz]
  simp (disch := omega) [-hset_if, -Bool.decide_and, hset_ne]
  refine inside_ok ?_
  rw [gb]
  simp (disch := omega) [-hset_if, -Bool.decide_and, hset_ne]
  refine inside_ok ?_
  rw [gl]
  simp (disch := omega) [-hset_if, -Bool.decide_and, hset_ne]
  refine awake_ok ?_
  simp (disch := omega) [-hset_if, -Bool.decide_and, hset_ne]
  refine levelR_ok hs4 ht4 hR hl hq hI1 hI2 (inB_iff.1 gb) ?_
  simp (disch := omega) [-hset_if, -Bool.decide_and, hset_ne]
  exact hr.fin rfl (by omega) hf4
theorem stepsD1t (hs : SlR ⟨Try.prog, w0⟩ H D 5 Load.cells pv l) (hD : ∀ i, D i → i < n) (ht : SlR ⟨Try.prog, w0⟩ H E 2 Sta.cells sv s) (hE : ∀ i, E i → i < n) (h0 : chk l = 0) (gb : inB base = true) (gl : inB limit = true) (hrz : rdy l s now = 0) (hq : s.length = l.length) (hr : Res n H K (.bool true)) : ACall ⟨Try.prog, w0⟩ 9 [pv, sv, .int .i64 base, .int .i64 limit, .int .i64 now] K n H := by
  have hst : chS l s now [base, limit] = 0 := by rw [chS_rdy h0 (by simp [gb, gl]), hrz]
  obtain ⟨_, hI1, hI2⟩ := rdy_spec hrz
  have hLv := lvV_ok (base := base) (show chS l s now [base] = 0 by rw [chS_rdy h0 (by simp [gb]), hrz])
  have hPw := pwV_ok h0 hq
  have hqn : ((s.length : Int) != (l.length : Int)) = false := by simp [hq]
  have hqe : ((s.length : Int) == (l.length : Int)) = true := by simp [hq]
  have hR := chk_rng h0
  have hl := chk_len h0
  refine ACall.run Try.func9 rfl Try.ntmps9 Try.results9 (by simp) fun J0 => ?_
  simp (disch := omega) [-hset_if, -Bool.decide_and, hset_ne, hs.lenK, ht.lenK]
  refine gif_dec (fun h1 => ?_) (fun h1 => ?_)
  · simp (disch := omega) [-hset_if, -Bool.decide_and, hset_ne]
    refine awake_ok ?_
    simp (disch := omega) [-hset_if, -Bool.decide_and, hset_ne]
    exact hr.fin rfl (by omega) (fun i hi => by simp (disch := omega) only [hset_ne])
  simp (disch := omega) [-hset_if, -Bool.decide_and, hset_ne, hs.lenK, ht.lenK]
  refine cif_dec (fun h2 => ?_) (fun h2 => ?_)
  · simp (disch := omega) [-hset_if, -Bool.decide_and, hset_ne]
    refine awake_ok ?_
    simp (disch := omega) [-hset_if, -Bool.decide_and, hset_ne]
    exact hr.fin rfl (by omega) (fun i hi => by simp (disch := omega) only [hset_ne])
  have hb : l.length < 4611686018427387904 := by omega
  have hb2 : s.length ≤ 70 := by omega
  simp (disch := omega) [-hset_if, -Bool.decide_and, hset_ne]
  refine ours_ok ht hE hb2 ?_
  intro v1 n1 H1 E1 f1 f2 f3 f4
  have hf1 : ∀ i, i < n → H1 i = H i := f2
  simp (disch := omega) [-hset_if, -Bool.decide_and, hset_ne]
  refine Step_ok hb hb2 (hs.frame (fun i hi => hf1 i (hD i hi))) (fun i hi => by have := hD i hi; omega) f4.sl (fun i hi => (f3 i hi).2) ?_ ?_
  · intro _ _ _ _ e
    exact absurd hst e
  intro _ v2 n2 H2 E2 g1 g2 g3 g4
  have hf2 : ∀ i, i < n → H2 i = H i := fun i hi => by rw [g2 i (by omega), hf1 i hi]
  have hn2 : n ≤ n2 := by omega
  simp (disch := omega) [-hset_if, -Bool.decide_and, hset_ne]
  refine ours_ok (ht.frame (fun i hi => hf2 i (hE i hi))) (fun i hi => by have := hE i hi; omega) hb2 ?_
  intro v3 n3 H3 E3 b1 b2 b3 b4
  have hf3 : ∀ i, i < n → H3 i = H i := fun i hi => by rw [b2 i (by omega), hf2 i hi]
  simp (disch := omega) [-hset_if, -Bool.decide_and, hset_ne]
  refine Power_ok hb (hs.frame (fun i hi => hf3 i (hD i hi))) (fun i hi => by have := hD i hi; omega) b4.sl (fun i hi => (b3 i hi).2) ?_
  rw [hPw]
  simp (disch := omega) [-hset_if, -Bool.decide_and, hset_ne]
  refine ours_ok (ht.frame (fun i hi => hf3 i (hE i hi))) (fun i hi => by have := hE i hi; omega) hb2 ?_
  intro v4 n4 H4 E4 c1 c2 c3 c4
  have hf4 : ∀ i, i < n → H4 i = H i := fun i hi => by rw [c2 i (by omega), hf3 i hi]
  have hs4 : SlR ⟨Try.prog, w0⟩ H4 D 5 Load.cells pv l := hs.frame (fun i hi => hf4 i (hD i hi))
  have ht4 : SlR ⟨Try.prog, w0⟩ H4 E 2 Sta.cells sv s := ht.frame (fun i hi => hf4 i (hE i hi))
  have hD4 : ∀ i, D i → i < n4 := fun i hi => by have := hD i hi; omega
  have hE4 : ∀ i, E i → i < n4 := fun i hi => by have := hE i hi; omega
  simp (disch := omega) [-hset_if, -Bool.decide_and, hset_ne]
  refine Level_ok hb (by omega) hs4 hD4 c4.sl (fun i hi => (c3 i hi).2) ?_
  rw [hLv]
  simp (disch := omega) [-hset_if, -Bool.decide_and, hset_ne]
  refine checkR_ok hs4 hD4 hb ?_
  rw [h0]
  simp (disch := omega) [-hset_if, -Bool.decide_and, hset_ne, hs.lenK, ht.lenK, hqn, hqe]
  refine powerR_ok hs4 ht4 hR hl hq ?_
  simp (disch := omega) [-hset_if, -Bool.decide_and, hset_ne]
  refine ready_ok hs4 ht4 hb (by omega) ?_
  rw [hrz]
  simp (disch := omega) [-hset_if, -Bool.decide_and, hset_ne]
  refine inside_ok ?_
  rw [gb]
  simp (disch := omega) [-hset_if, -Bool.decide_and, hset_ne]
  refine inside_ok ?_
  rw [gl]
  simp (disch := omega) [-hset_if, -Bool.decide_and, hset_ne]
  refine awake_ok ?_
  simp (disch := omega) [-hset_if, -Bool.decide_and, hset_ne]
  have hlen := (stp_spec (base := base) (limit := limit) (now := now) h0 hq).1
  refine theirs_ok (g4.sl.frame (fun i hi => by have := g3 i hi; rw [c2 i (by omega), b2 i (by omega)])) (fun i hi => by have := g3 i hi; omega) (by omega) ?_
  intro v5 n5 H5 E5 d1 d2 d3 d4
  have hf5 : ∀ i, i < n → H5 i = H i := fun i hi => by rw [d2 i (by omega), hf4 i hi]
  have hs5 : SlR ⟨Try.prog, w0⟩ H5 D 5 Load.cells pv l := hs.frame (fun i hi => hf5 i (hD i hi))
  have ht5 : SlR ⟨Try.prog, w0⟩ H5 E 2 Sta.cells sv s := ht.frame (fun i hi => hf5 i (hE i hi))
  simp (disch := omega) [-hset_if, -Bool.decide_and, hset_ne]
  refine stepR_ok hs5 (fun i hi => by have := hD i hi; omega) ht5 (fun i hi => by have := hE i hi; omega) hR hl hq hI1 hI2 (inB_iff.1 gb) ?_
  intro v6 n6 H6 E6 x1 x2 x3 x4
  have hf6 : ∀ i, i < n → H6 i = H i := fun i hi => by rw [x2 i (by omega), hf5 i hi]
  have hs6 : SlR ⟨Try.prog, w0⟩ H6 D 5 Load.cells pv l := hs.frame (fun i hi => hf6 i (hD i hi))
  have ht6 : SlR ⟨Try.prog, w0⟩ H6 E 2 Sta.cells sv s := ht.frame (fun i hi => hf6 i (hE i hi))
  simp (disch := omega) [-hset_if, -Bool.decide_and, hset_ne]
  refine sameS_ok (d4.sl.frame (fun i hi => x2 i (d4.lt i hi))) x4.sl (by omega) ?_
  simp (disch := omega) [-hset_if, -Bool.decide_and, hset_ne]
  refine levelR_ok hs6 ht6 hR hl hq hI1 hI2 (inB_iff.1 gb) ?_
  simp (disch := omega) [-hset_if, -Bool.decide_and, hset_ne]
  exact hr.fin rfl (by omega) hf6
theorem stepsB0t0 (hs : SlR ⟨Try.prog, w0⟩ H D 5 Load.cells pv l) (hD : ∀ i, D i → i < n) (ht : SlR ⟨Try.prog, w0⟩ H E 2 Sta.cells sv s) (hE : ∀ i, E i → i < n) (h0 : chk l = 0) (gb : inB base = false) (gl : inB limit = true) (hrn : (rdy l s now != 0) = true) (hq : s.length ≠ l.length) (hr : Res n H K (.bool true)) : ACall ⟨Try.prog, w0⟩ 9 [pv, sv, .int .i64 base, .int .i64 limit, .int .i64 now] K n H := by
  have hst := chS_six (s := s) (now := now) (xs := [base, limit]) h0 (by simp [gb])
  have hne : (6 : Int) ≠ 0 := by decide
  have hLv := lvV_bad (base := base) (chS_six (s := s) (now := now) (xs := [base]) h0 (by simp [gb])) (by decide)
  have hPw := pwV_len h0 hq
  have hqn : ((s.length : Int) != (l.length : Int)) = true := by simp; omega
  have hqe : ((s.length : Int) == (l.length : Int)) = false := by simp; omega
  refine ACall.run Try.func9 rfl Try.ntmps9 Try.results9 (by simp) fun J0 => ?_
  simp (disch := omega) [-hset_if, -Bool.decide_and, hset_ne, hs.lenK, ht.lenK]
  refine gif_dec (fun h1 => ?_) (fun h1 => ?_)
  · simp (disch := omega) [-hset_if, -Bool.decide_and, hset_ne]
    refine awake_ok ?_
    simp (disch := omega) [-hset_if, -Bool.decide_and, hset_ne]
    exact hr.fin rfl (by omega) (fun i hi => by simp (disch := omega) only [hset_ne])
  simp (disch := omega) [-hset_if, -Bool.decide_and, hset_ne, hs.lenK, ht.lenK]
  refine cif_dec (fun h2 => ?_) (fun h2 => ?_)
  · simp (disch := omega) [-hset_if, -Bool.decide_and, hset_ne]
    refine awake_ok ?_
    simp (disch := omega) [-hset_if, -Bool.decide_and, hset_ne]
    exact hr.fin rfl (by omega) (fun i hi => by simp (disch := omega) only [hset_ne])
  have hb : l.length < 4611686018427387904 := by omega
  have hb2 : s.length ≤ 70 := by omega
  simp (disch := omega) [-hset_if, -Bool.decide_and, hset_ne]
  refine ours_ok ht hE hb2 ?_
  intro v1 n1 H1 E1 f1 f2 f3 f4
  have hf1 : ∀ i, i < n → H1 i = H i := f2
  simp (disch := omega) [-hset_if, -Bool.decide_and, hset_ne]
  refine Step_ok hb hb2 (hs.frame (fun i hi => hf1 i (hD i hi))) (fun i hi => by have := hD i hi; omega) f4.sl (fun i hi => (f3 i hi).2) ?_ ?_
  rotate_left
  · intro e
    exact absurd e (by rw [hst]; exact hne)
  intro n2 H2 g1 g2 _
  rw [hst]
  have hf2 : ∀ i, i < n → H2 i = H i := fun i hi => by rw [g2 i (by omega), hf1 i hi]
  have hn2 : n ≤ n2 := by omega
  simp (disch := omega) [-hset_if, -Bool.decide_and, hset_ne]
  refine ours_ok (ht.frame (fun i hi => hf2 i (hE i hi))) (fun i hi => by have := hE i hi; omega) hb2 ?_
  intro v3 n3 H3 E3 b1 b2 b3 b4
  have hf3 : ∀ i, i < n → H3 i = H i := fun i hi => by rw [b2 i (by omega), hf2 i hi]
  simp (disch := omega) [-hset_if, -Bool.decide_and, hset_ne]
  refine Power_ok hb (hs.frame (fun i hi => hf3 i (hD i hi))) (fun i hi => by have := hD i hi; omega) b4.sl (fun i hi => (b3 i hi).2) ?_
  rw [hPw]
  simp (disch := omega) [-hset_if, -Bool.decide_and, hset_ne]
  refine ours_ok (ht.frame (fun i hi => hf3 i (hE i hi))) (fun i hi => by have := hE i hi; omega) hb2 ?_
  intro v4 n4 H4 E4 c1 c2 c3 c4
  have hf4 : ∀ i, i < n → H4 i = H i := fun i hi => by rw [c2 i (by omega), hf3 i hi]
  have hs4 : SlR ⟨Try.prog, w0⟩ H4 D 5 Load.cells pv l := hs.frame (fun i hi => hf4 i (hD i hi))
  have ht4 : SlR ⟨Try.prog, w0⟩ H4 E 2 Sta.cells sv s := ht.frame (fun i hi => hf4 i (hE i hi))
  have hD4 : ∀ i, D i → i < n4 := fun i hi => by have := hD i hi; omega
  have hE4 : ∀ i, E i → i < n4 := fun i hi => by have := hE i hi; omega
  simp (disch := omega) [-hset_if, -Bool.decide_and, hset_ne]
  refine Level_ok hb (by omega) hs4 hD4 c4.sl (fun i hi => (c3 i hi).2) ?_
  rw [hLv]
  simp (disch := omega) [-hset_if, -Bool.decide_and, hset_ne]
  refine checkR_ok hs4 hD4 hb ?_
  rw [h0]
  simp (disch := omega) [-hset_if, -Bool.decide_and, hset_ne, hs.lenK, ht.lenK, hqn, hqe]
  refine ready_ok hs4 ht4 hb (by omega) ?_
  simp (disch := omega) [-hset_if, -Bool.decide_and, hset_ne]
  refine inside_ok ?_
  rw [gb]
  simp (disch := omega) [-hset_if, -Bool.decide_and, hset_ne]
  refine inside_ok ?_
  rw [gl]
  simp (disch := omega) [-hset_if, -Bool.decide_and, hset_ne, hrn]
  refine awake_ok ?_
  simp (disch := omega) [-hset_if, -Bool.decide_and, hset_ne, hrn]
  exact hr.fin rfl (by omega) hf4
theorem stepsB0f0 (hs : SlR ⟨Try.prog, w0⟩ H D 5 Load.cells pv l) (hD : ∀ i, D i → i < n) (ht : SlR ⟨Try.prog, w0⟩ H E 2 Sta.cells sv s) (hE : ∀ i, E i → i < n) (h0 : chk l = 0) (gb : inB base = false) (gl : inB limit = false) (hrn : (rdy l s now != 0) = true) (hq : s.length ≠ l.length) (hr : Res n H K (.bool true)) : ACall ⟨Try.prog, w0⟩ 9 [pv, sv, .int .i64 base, .int .i64 limit, .int .i64 now] K n H := by
  have hst := chS_six (s := s) (now := now) (xs := [base, limit]) h0 (by simp [gb])
  have hne : (6 : Int) ≠ 0 := by decide
  have hLv := lvV_bad (base := base) (chS_six (s := s) (now := now) (xs := [base]) h0 (by simp [gb])) (by decide)
  have hPw := pwV_len h0 hq
  have hqn : ((s.length : Int) != (l.length : Int)) = true := by simp; omega
  have hqe : ((s.length : Int) == (l.length : Int)) = false := by simp; omega
  refine ACall.run Try.func9 rfl Try.ntmps9 Try.results9 (by simp) fun J0 => ?_
  simp (disch := omega) [-hset_if, -Bool.decide_and, hset_ne, hs.lenK, ht.lenK]
  refine gif_dec (fun h1 => ?_) (fun h1 => ?_)
  · simp (disch := omega) [-hset_if, -Bool.decide_and, hset_ne]
    refine awake_ok ?_
    simp (disch := omega) [-hset_if, -Bool.decide_and, hset_ne]
    exact hr.fin rfl (by omega) (fun i hi => by simp (disch := omega) only [hset_ne])
  simp (disch := omega) [-hset_if, -Bool.decide_and, hset_ne, hs.lenK, ht.lenK]
  refine cif_dec (fun h2 => ?_) (fun h2 => ?_)
  · simp (disch := omega) [-hset_if, -Bool.decide_and, hset_ne]
    refine awake_ok ?_
    simp (disch := omega) [-hset_if, -Bool.decide_and, hset_ne]
    exact hr.fin rfl (by omega) (fun i hi => by simp (disch := omega) only [hset_ne])
  have hb : l.length < 4611686018427387904 := by omega
  have hb2 : s.length ≤ 70 := by omega
  simp (disch := omega) [-hset_if, -Bool.decide_and, hset_ne]
  refine ours_ok ht hE hb2 ?_
  intro v1 n1 H1 E1 f1 f2 f3 f4
  have hf1 : ∀ i, i < n → H1 i = H i := f2
  simp (disch := omega) [-hset_if, -Bool.decide_and, hset_ne]
  refine Step_ok hb hb2 (hs.frame (fun i hi => hf1 i (hD i hi))) (fun i hi => by have := hD i hi; omega) f4.sl (fun i hi => (f3 i hi).2) ?_ ?_
  rotate_left
  · intro e
    exact absurd e (by rw [hst]; exact hne)
  intro n2 H2 g1 g2 _
  rw [hst]
  have hf2 : ∀ i, i < n → H2 i = H i := fun i hi => by rw [g2 i (by omega), hf1 i hi]
  have hn2 : n ≤ n2 := by omega
  simp (disch := omega) [-hset_if, -Bool.decide_and, hset_ne]
  refine ours_ok (ht.frame (fun i hi => hf2 i (hE i hi))) (fun i hi => by have := hE i hi; omega) hb2 ?_
  intro v3 n3 H3 E3 b1 b2 b3 b4
  have hf3 : ∀ i, i < n → H3 i = H i := fun i hi => by rw [b2 i (by omega), hf2 i hi]
  simp (disch := omega) [-hset_if, -Bool.decide_and, hset_ne]
  refine Power_ok hb (hs.frame (fun i hi => hf3 i (hD i hi))) (fun i hi => by have := hD i hi; omega) b4.sl (fun i hi => (b3 i hi).2) ?_
  rw [hPw]
  simp (disch := omega) [-hset_if, -Bool.decide_and, hset_ne]
  refine ours_ok (ht.frame (fun i hi => hf3 i (hE i hi))) (fun i hi => by have := hE i hi; omega) hb2 ?_
  intro v4 n4 H4 E4 c1 c2 c3 c4
  have hf4 : ∀ i, i < n → H4 i = H i := fun i hi => by rw [c2 i (by omega), hf3 i hi]
  have hs4 : SlR ⟨Try.prog, w0⟩ H4 D 5 Load.cells pv l := hs.frame (fun i hi => hf4 i (hD i hi))
  have ht4 : SlR ⟨Try.prog, w0⟩ H4 E 2 Sta.cells sv s := ht.frame (fun i hi => hf4 i (hE i hi))
  have hD4 : ∀ i, D i → i < n4 := fun i hi => by have := hD i hi; omega
  have hE4 : ∀ i, E i → i < n4 := fun i hi => by have := hE i hi; omega
  simp (disch := omega) [-hset_if, -Bool.decide_and, hset_ne]
  refine Level_ok hb (by omega) hs4 hD4 c4.sl (fun i hi => (c3 i hi).2) ?_
  rw [hLv]
  simp (disch := omega) [-hset_if, -Bool.decide_and, hset_ne]
  refine checkR_ok hs4 hD4 hb ?_
  rw [h0]
  simp (disch := omega) [-hset_if, -Bool.decide_and, hset_ne, hs.lenK, ht.lenK, hqn, hqe]
  refine ready_ok hs4 ht4 hb (by omega) ?_
  simp (disch := omega) [-hset_if, -Bool.decide_and, hset_ne]
  refine inside_ok ?_
  rw [gb]
  simp (disch := omega) [-hset_if, -Bool.decide_and, hset_ne]
  refine inside_ok ?_
  rw [gl]
  simp (disch := omega) [-hset_if, -Bool.decide_and, hset_ne, hrn]
  refine awake_ok ?_
  simp (disch := omega) [-hset_if, -Bool.decide_and, hset_ne, hrn]
  exact hr.fin rfl (by omega) hf4
theorem stepsC0t (hs : SlR ⟨Try.prog, w0⟩ H D 5 Load.cells pv l) (hD : ∀ i, D i → i < n) (ht : SlR ⟨Try.prog, w0⟩ H E 2 Sta.cells sv s) (hE : ∀ i, E i → i < n) (h0 : chk l = 0) (gb : inB base = true) (gl : inB limit = true) (hrn : (rdy l s now != 0) = true) (hq : s.length ≠ l.length) (hr : Res n H K (.bool true)) : ACall ⟨Try.prog, w0⟩ 9 [pv, sv, .int .i64 base, .int .i64 limit, .int .i64 now] K n H := by
  have hrn2 : rdy l s now ≠ 0 := by simpa using hrn
  have hst := chS_rdy (s := s) (now := now) (xs := [base, limit]) h0 (by simp [gb, gl])
  have hne := hrn2
  have hLv := lvV_bad (base := base) (chS_rdy (s := s) (now := now) (xs := [base]) h0 (by simp [gb])) hrn2
  have hPw := pwV_len h0 hq
  have hqn : ((s.length : Int) != (l.length : Int)) = true := by simp; omega
  have hqe : ((s.length : Int) == (l.length : Int)) = false := by simp; omega
  refine ACall.run Try.func9 rfl Try.ntmps9 Try.results9 (by simp) fun J0 => ?_
  simp (disch := omega) [-hset_if, -Bool.decide_and, hset_ne, hs.lenK, ht.lenK]
  refine gif_dec (fun h1 => ?_) (fun h1 => ?_)
  · simp (disch := omega) [-hset_if, -Bool.decide_and, hset_ne]
    refine awake_ok ?_
    simp (disch := omega) [-hset_if, -Bool.decide_and, hset_ne]
    exact hr.fin rfl (by omega) (fun i hi => by simp (disch := omega) only [hset_ne])
  simp (disch := omega) [-hset_if, -Bool.decide_and, hset_ne, hs.lenK, ht.lenK]
  refine cif_dec (fun h2 => ?_) (fun h2 => ?_)
  · simp (disch := omega) [-hset_if, -Bool.decide_and, hset_ne]
    refine awake_ok ?_
    simp (disch := omega) [-hset_if, -Bool.decide_and, hset_ne]
    exact hr.fin rfl (by omega) (fun i hi => by simp (disch := omega) only [hset_ne])
  have hb : l.length < 4611686018427387904 := by omega
  have hb2 : s.length ≤ 70 := by omega
  simp (disch := omega) [-hset_if, -Bool.decide_and, hset_ne]
  refine ours_ok ht hE hb2 ?_
  intro v1 n1 H1 E1 f1 f2 f3 f4
  have hf1 : ∀ i, i < n → H1 i = H i := f2
  simp (disch := omega) [-hset_if, -Bool.decide_and, hset_ne]
  refine Step_ok hb hb2 (hs.frame (fun i hi => hf1 i (hD i hi))) (fun i hi => by have := hD i hi; omega) f4.sl (fun i hi => (f3 i hi).2) ?_ ?_
  rotate_left
  · intro e
    exact absurd e (by rw [hst]; exact hne)
  intro n2 H2 g1 g2 _
  rw [hst]
  have hf2 : ∀ i, i < n → H2 i = H i := fun i hi => by rw [g2 i (by omega), hf1 i hi]
  have hn2 : n ≤ n2 := by omega
  simp (disch := omega) [-hset_if, -Bool.decide_and, hset_ne]
  refine ours_ok (ht.frame (fun i hi => hf2 i (hE i hi))) (fun i hi => by have := hE i hi; omega) hb2 ?_
  intro v3 n3 H3 E3 b1 b2 b3 b4
  have hf3 : ∀ i, i < n → H3 i = H i := fun i hi => by rw [b2 i (by omega), hf2 i hi]
  simp (disch := omega) [-hset_if, -Bool.decide_and, hset_ne]
  refine Power_ok hb (hs.frame (fun i hi => hf3 i (hD i hi))) (fun i hi => by have := hD i hi; omega) b4.sl (fun i hi => (b3 i hi).2) ?_
  rw [hPw]
  simp (disch := omega) [-hset_if, -Bool.decide_and, hset_ne]
  refine ours_ok (ht.frame (fun i hi => hf3 i (hE i hi))) (fun i hi => by have := hE i hi; omega) hb2 ?_
  intro v4 n4 H4 E4 c1 c2 c3 c4
  have hf4 : ∀ i, i < n → H4 i = H i := fun i hi => by rw [c2 i (by omega), hf3 i hi]
  have hs4 : SlR ⟨Try.prog, w0⟩ H4 D 5 Load.cells pv l := hs.frame (fun i hi => hf4 i (hD i hi))
  have ht4 : SlR ⟨Try.prog, w0⟩ H4 E 2 Sta.cells sv s := ht.frame (fun i hi => hf4 i (hE i hi))
  have hD4 : ∀ i, D i → i < n4 := fun i hi => by have := hD i hi; omega
  have hE4 : ∀ i, E i → i < n4 := fun i hi => by have := hE i hi; omega
  simp (disch := omega) [-hset_if, -Bool.decide_and, hset_ne]
  refine Level_ok hb (by omega) hs4 hD4 c4.sl (fun i hi => (c3 i hi).2) ?_
  rw [hLv]
  simp (disch := omega) [-hset_if, -Bool.decide_and, hset_ne]
  refine checkR_ok hs4 hD4 hb ?_
  rw [h0]
  simp (disch := omega) [-hset_if, -Bool.decide_and, hset_ne, hs.lenK, ht.lenK, hqn, hqe]
  refine ready_ok hs4 ht4 hb (by omega) ?_
  simp (disch := omega) [-hset_if, -Bool.decide_and, hset_ne]
  refine inside_ok ?_
  rw [gb]
  simp (disch := omega) [-hset_if, -Bool.decide_and, hset_ne]
  refine inside_ok ?_
  rw [gl]
  simp (disch := omega) [-hset_if, -Bool.decide_and, hset_ne, hrn]
  refine awake_ok ?_
  simp (disch := omega) [-hset_if, -Bool.decide_and, hset_ne, hrn]
  exact hr.fin rfl (by omega) hf4
theorem stepsC0f (hs : SlR ⟨Try.prog, w0⟩ H D 5 Load.cells pv l) (hD : ∀ i, D i → i < n) (ht : SlR ⟨Try.prog, w0⟩ H E 2 Sta.cells sv s) (hE : ∀ i, E i → i < n) (h0 : chk l = 0) (gb : inB base = true) (gl : inB limit = false) (hrn : (rdy l s now != 0) = true) (hq : s.length ≠ l.length) (hr : Res n H K (.bool true)) : ACall ⟨Try.prog, w0⟩ 9 [pv, sv, .int .i64 base, .int .i64 limit, .int .i64 now] K n H := by
  have hrn2 : rdy l s now ≠ 0 := by simpa using hrn
  have hst := chS_six (s := s) (now := now) (xs := [base, limit]) h0 (by simp [gb, gl])
  have hne : (6 : Int) ≠ 0 := by decide
  have hLv := lvV_bad (base := base) (chS_rdy (s := s) (now := now) (xs := [base]) h0 (by simp [gb])) hrn2
  have hPw := pwV_len h0 hq
  have hqn : ((s.length : Int) != (l.length : Int)) = true := by simp; omega
  have hqe : ((s.length : Int) == (l.length : Int)) = false := by simp; omega
  refine ACall.run Try.func9 rfl Try.ntmps9 Try.results9 (by simp) fun J0 => ?_
  simp (disch := omega) [-hset_if, -Bool.decide_and, hset_ne, hs.lenK, ht.lenK]
  refine gif_dec (fun h1 => ?_) (fun h1 => ?_)
  · simp (disch := omega) [-hset_if, -Bool.decide_and, hset_ne]
    refine awake_ok ?_
    simp (disch := omega) [-hset_if, -Bool.decide_and, hset_ne]
    exact hr.fin rfl (by omega) (fun i hi => by simp (disch := omega) only [hset_ne])
  simp (disch := omega) [-hset_if, -Bool.decide_and, hset_ne, hs.lenK, ht.lenK]
  refine cif_dec (fun h2 => ?_) (fun h2 => ?_)
  · simp (disch := omega) [-hset_if, -Bool.decide_and, hset_ne]
    refine awake_ok ?_
    simp (disch := omega) [-hset_if, -Bool.decide_and, hset_ne]
    exact hr.fin rfl (by omega) (fun i hi => by simp (disch := omega) only [hset_ne])
  have hb : l.length < 4611686018427387904 := by omega
  have hb2 : s.length ≤ 70 := by omega
  simp (disch := omega) [-hset_if, -Bool.decide_and, hset_ne]
  refine ours_ok ht hE hb2 ?_
  intro v1 n1 H1 E1 f1 f2 f3 f4
  have hf1 : ∀ i, i < n → H1 i = H i := f2
  simp (disch := omega) [-hset_if, -Bool.decide_and, hset_ne]
  refine Step_ok hb hb2 (hs.frame (fun i hi => hf1 i (hD i hi))) (fun i hi => by have := hD i hi; omega) f4.sl (fun i hi => (f3 i hi).2) ?_ ?_
  rotate_left
  · intro e
    exact absurd e (by rw [hst]; exact hne)
  intro n2 H2 g1 g2 _
  rw [hst]
  have hf2 : ∀ i, i < n → H2 i = H i := fun i hi => by rw [g2 i (by omega), hf1 i hi]
  have hn2 : n ≤ n2 := by omega
  simp (disch := omega) [-hset_if, -Bool.decide_and, hset_ne]
  refine ours_ok (ht.frame (fun i hi => hf2 i (hE i hi))) (fun i hi => by have := hE i hi; omega) hb2 ?_
  intro v3 n3 H3 E3 b1 b2 b3 b4
  have hf3 : ∀ i, i < n → H3 i = H i := fun i hi => by rw [b2 i (by omega), hf2 i hi]
  simp (disch := omega) [-hset_if, -Bool.decide_and, hset_ne]
  refine Power_ok hb (hs.frame (fun i hi => hf3 i (hD i hi))) (fun i hi => by have := hD i hi; omega) b4.sl (fun i hi => (b3 i hi).2) ?_
  rw [hPw]
  simp (disch := omega) [-hset_if, -Bool.decide_and, hset_ne]
  refine ours_ok (ht.frame (fun i hi => hf3 i (hE i hi))) (fun i hi => by have := hE i hi; omega) hb2 ?_
  intro v4 n4 H4 E4 c1 c2 c3 c4
  have hf4 : ∀ i, i < n → H4 i = H i := fun i hi => by rw [c2 i (by omega), hf3 i hi]
  have hs4 : SlR ⟨Try.prog, w0⟩ H4 D 5 Load.cells pv l := hs.frame (fun i hi => hf4 i (hD i hi))
  have ht4 : SlR ⟨Try.prog, w0⟩ H4 E 2 Sta.cells sv s := ht.frame (fun i hi => hf4 i (hE i hi))
  have hD4 : ∀ i, D i → i < n4 := fun i hi => by have := hD i hi; omega
  have hE4 : ∀ i, E i → i < n4 := fun i hi => by have := hE i hi; omega
  simp (disch := omega) [-hset_if, -Bool.decide_and, hset_ne]
  refine Level_ok hb (by omega) hs4 hD4 c4.sl (fun i hi => (c3 i hi).2) ?_
  rw [hLv]
  simp (disch := omega) [-hset_if, -Bool.decide_and, hset_ne]
  refine checkR_ok hs4 hD4 hb ?_
  rw [h0]
  simp (disch := omega) [-hset_if, -Bool.decide_and, hset_ne, hs.lenK, ht.lenK, hqn, hqe]
  refine ready_ok hs4 ht4 hb (by omega) ?_
  simp (disch := omega) [-hset_if, -Bool.decide_and, hset_ne]
  refine inside_ok ?_
  rw [gb]
  simp (disch := omega) [-hset_if, -Bool.decide_and, hset_ne]
  refine inside_ok ?_
  rw [gl]
  simp (disch := omega) [-hset_if, -Bool.decide_and, hset_ne, hrn]
  refine awake_ok ?_
  simp (disch := omega) [-hset_if, -Bool.decide_and, hset_ne, hrn]
  exact hr.fin rfl (by omega) hf4
theorem stepsLaw_ok (hs : SlR ⟨Try.prog, w0⟩ H D 5 Load.cells pv l) (hD : ∀ i, D i → i < n) (ht : SlR ⟨Try.prog, w0⟩ H E 2 Sta.cells sv s) (hE : ∀ i, E i → i < n) (hr : Res n H K (.bool true)) : ACall ⟨Try.prog, w0⟩ 9 [pv, sv, .int .i64 base, .int .i64 limit, .int .i64 now] K n H := by
  by_cases h0 : chk l = 0
  rotate_left
  · exact stepsA hs hD ht hE h0 hr
  by_cases hq : s.length = l.length
  · by_cases hz : rdy l s now = 0
    · cases gb : inB base <;> cases gl : inB limit
      · exact stepsB1f1 hs hD ht hE h0 gb gl hz hq hr
      · exact stepsB1t1 hs hD ht hE h0 gb gl hz hq hr
      · exact stepsD1f hs hD ht hE h0 gb gl hz hq hr
      · exact stepsD1t hs hD ht hE h0 gb gl hz hq hr
    · have hz : (rdy l s now != 0) = true := by simpa using hz
      cases gb : inB base <;> cases gl : inB limit
      · exact stepsB1f0 hs hD ht hE h0 gb gl hz hq hr
      · exact stepsB1t0 hs hD ht hE h0 gb gl hz hq hr
      · exact stepsC1f hs hD ht hE h0 gb gl hz hq hr
      · exact stepsC1t hs hD ht hE h0 gb gl hz hq hr
  · have hz : (rdy l s now != 0) = true := by
      have : rdy l s now ≠ 0 := fun e => hq (rdy_spec e).1
      simpa using this
    cases gb : inB base <;> cases gl : inB limit
    · exact stepsB0f0 hs hD ht hE h0 gb gl hz hq hr
    · exact stepsB0t0 hs hD ht hE h0 gb gl hz hq hr
    · exact stepsC0f hs hD ht hE h0 gb gl hz hq hr
    · exact stepsC0t hs hD ht hE h0 gb gl hz hq hr
end Go.Aw.S56
