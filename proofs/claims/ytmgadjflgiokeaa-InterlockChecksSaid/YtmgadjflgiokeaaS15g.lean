/-
  Chapter 15, the reference: Winner, Step, Waiting.
-/
import Derived.Test.YtmgadjflgiokeaaS15f
namespace Go.Aw.S15
open Go.RowKit Go.Proofs Go.Aw.Tab
set_option linter.unusedSimpArgs false
set_option linter.unusedVariables false
set_option maxRecDepth 10000
set_option maxHeartbeats 1000000
set_option pp.deepTerms false
set_option pp.deepTerms.threshold 4
set_option pp.maxSteps 1500
attribute [local simp] Req.cells
variable {w0 : World} {n : Nat} {H : Heap} {K : Value → Nat → Heap → Prop}
variable {pv av : Value} {D E : Nat → Prop} {nm : ByteArray} {ps : List ByteArray} {rs : List Req} {dead on left now a b : Int}
theorem formedB_lvl {np : Nat} (h : formedB np dead on left rs = true) : ∀ r ∈ rs, okLvl r = true := fun r hr => by
  have := List.any_eq_false.mp (of_decide_eq_true h).2.2.2.2.2.2 r hr
  simpa using this
theorem stepR_ok (hs : SlR ⟨Try.prog, w0⟩ H D 3 Req.cells av rs) (hD : ∀ i, D i → i < n) (hb : rs.length < 9223372036854775807) (h0 : formedB ps.length dead on left rs = true) (hn0 : 0 ≤ now) (hn1 : now ≤ 6311433599) (hl : left ≤ now)
    (hk : ∀ n' H', n ≤ n' → (∀ i, i < n → H' i = H i) → K (stepS dead on left rs now) n' H') :
    ACall ⟨Try.prog, w0⟩ 40 [.agg #[.string nm, pv, .int .i64 dead], .agg #[.int .i64 on, .int .i64 left], av, .int .i64 now] K n H := by
  have hsc := hs.cells
  have ho := formedB_on h0
  refine ACall.run Try.func40 rfl Try.ntmps40 Try.results40 (by simp) fun J0 => ?_
  simp (disch := omega) [-hset_if, -Bool.decide_and, hset_ne, hsc]
  refine winnerR_ok (rs := rs) (hs.frame (fun i hi => by have := hD i hi; simp (disch := omega) [-hset_if, -Bool.decide_and, hset_ne, hsc])) ho.2.2.1 hb (formedB_lvl h0) ?_
  simp (disch := omega) [-hset_if, -Bool.decide_and, hset_ne]
  refine gif_dec (fun h1 => ?_) (fun h1 => ?_)
  · simp (disch := omega) [-hset_if, -Bool.decide_and, hset_ne]
    refine cif_bne (fun h2 => ?_) (fun h2 => ?_)
    · have g1 : ¬ on < 0 := by omega
      simp (disch := omega) [-hset_if, -Bool.decide_and, hset_ne, g1]
      refine Fin_id ?_
      rw [show stepS dead on left rs now = (.agg #[.int .i64 on, .int .i64 left]) from by rw [stepS, if_neg (by omega), if_neg (by omega)]] at hk
      exact hk _ _ (by omega) (fun i hi => by simp (disch := omega) [-hset_if, -Bool.decide_and, hset_ne])
    · simp (disch := omega) [-hset_if, -Bool.decide_and, hset_ne]
      refine Fin_id ?_
      rw [show stepS dead on left rs now = (.agg #[.int .i64 (-1), .int .i64 now]) from by rw [stepS, if_pos ⟨h1, h2⟩]] at hk
      exact hk _ _ (by omega) (fun i hi => by simp (disch := omega) [-hset_if, -Bool.decide_and, hset_ne])
  · have g1 : on < 0 := by omega
    simp (disch := omega) [-hset_if, -Bool.decide_and, hset_ne, g1]
    refine gif_dec (fun h2 => ?_) (fun h2 => ?_)
    · simp (disch := omega) [-hset_if, -Bool.decide_and, hset_ne]
      refine cif_dec (fun h3 => ?_) (fun h3 => ?_)
      · simp (disch := omega) [-hset_if, -Bool.decide_and, hset_ne]
        refine Fin_id ?_
        rw [show stepS dead on left rs now = (.agg #[.int .i64 (win on rs), .int .i64 left]) from by rw [stepS, if_neg (by omega), if_pos ⟨g1, h2, h3⟩]] at hk
        exact hk _ _ (by omega) (fun i hi => by simp (disch := omega) [-hset_if, -Bool.decide_and, hset_ne])
      · simp (disch := omega) [-hset_if, -Bool.decide_and, hset_ne]
        refine Fin_id ?_
        rw [show stepS dead on left rs now = (.agg #[.int .i64 on, .int .i64 left]) from by rw [stepS, if_neg (by omega), if_neg (by omega)]] at hk
        exact hk _ _ (by omega) (fun i hi => by simp (disch := omega) [-hset_if, -Bool.decide_and, hset_ne])
    · simp (disch := omega) [-hset_if, -Bool.decide_and, hset_ne]
      refine Fin_id ?_
      rw [show stepS dead on left rs now = (.agg #[.int .i64 on, .int .i64 left]) from by rw [stepS, if_neg (by omega), if_neg (by omega)]] at hk
      exact hk _ _ (by omega) (fun i hi => by simp (disch := omega) [-hset_if, -Bool.decide_and, hset_ne])
theorem WinnerR_ok (hp : SlR ⟨Try.prog, w0⟩ H E 1 strC pv ps) (hs : SlR ⟨Try.prog, w0⟩ H D 3 Req.cells av rs) (hD : ∀ i, D i → i < n) (hE : ∀ i, E i → i < n) (hb : rs.length < 9223372036854775807)
    (hk : ∀ n' H', n ≤ n' → (∀ i, i < n → H' i = H i) → K (winnerR ps.length dead on left rs) n' H') :
    ACall ⟨Try.prog, w0⟩ 13 [.agg #[.string nm, pv, .int .i64 dead], .agg #[.int .i64 on, .int .i64 left], av] K n H := by
  have hpc := hp.cells
  have hsc := hs.cells
  refine ACall.run Try.func13 rfl Try.ntmps13 Try.results13 (by simp) fun J0 => ?_
  simp (disch := omega) [-hset_if, -Bool.decide_and, hset_ne, hpc, hsc]
  refine formedR_ok (rs := rs) (hp.frame (fun i hi => by have := hE i hi; simp (disch := omega) [-hset_if, -Bool.decide_and, hset_ne, hsc])) (hs.frame (fun i hi => by have := hD i hi; simp (disch := omega) [-hset_if, -Bool.decide_and, hset_ne, hsc])) (fun i hi => by have := hD i hi; omega) hb ?_
  intro n1 H1 e1 e2
  have e3 : ∀ i, i < n → H1 i = H i := fun i hi => by rw [e2 i (by omega)]; simp (disch := omega) [-hset_if, -Bool.decide_and, hset_ne]
  simp (disch := omega) [-hset_if, -Bool.decide_and, hset_ne]
  refine cif_var (fun h => ?_) (fun h => ?_)
  · have ho := formedB_on h
    simp (disch := omega) [-hset_if, -Bool.decide_and, hset_ne, hpc, hsc, e2]
    refine winnerR_ok (rs := rs) (hs.frame (fun i hi => by have := hD i hi; simp (disch := omega) [-hset_if, -Bool.decide_and, hset_ne, hsc, e3])) ho.2.2.1 hb (formedB_lvl h) ?_
    simp (disch := omega) [-hset_if, -Bool.decide_and, hset_ne]
    refine Fin_id ?_
    rw [show winnerR ps.length dead on left rs = .tuple #[.int .i64 (win on rs), .int .i64 0] from by rw [winnerR, if_pos h]] at hk
    exact hk _ _ (by omega) (fun i hi => by simp (disch := omega) [-hset_if, -Bool.decide_and, hset_ne, e3])
  · have h' : ¬ formedB ps.length dead on left rs = true := by simp [h]
    simp (disch := omega) [-hset_if, -Bool.decide_and, hset_ne, hpc, hsc, e2]
    refine Fin_id ?_
    rw [show winnerR ps.length dead on left rs = .tuple #[.int .i64 0, .int .i64 1] from by rw [winnerR, if_neg h']] at hk
    exact hk _ _ (by omega) (fun i hi => by simp (disch := omega) [-hset_if, -Bool.decide_and, hset_ne, e3])
theorem stepS_agg (dead on left now : Int) (rs : List Req) : ∃ x y, stepS dead on left rs now = .agg #[.int .i64 x, .int .i64 y] := by
  unfold stepS
  split
  · exact ⟨_, _, rfl⟩
  · split <;> exact ⟨_, _, rfl⟩
theorem StepR_ok (hp : SlR ⟨Try.prog, w0⟩ H E 1 strC pv ps) (hs : SlR ⟨Try.prog, w0⟩ H D 3 Req.cells av rs) (hD : ∀ i, D i → i < n) (hE : ∀ i, E i → i < n) (hb : rs.length < 9223372036854775807)
    (hk : ∀ n' H', n ≤ n' → (∀ i, i < n → H' i = H i) → K (stepR ps.length dead on left rs now) n' H') :
    ACall ⟨Try.prog, w0⟩ 15 [.agg #[.string nm, pv, .int .i64 dead], .agg #[.int .i64 on, .int .i64 left], av, .int .i64 now] K n H := by
  have hpc := hp.cells
  have hsc := hs.cells
  refine ACall.run Try.func15 rfl Try.ntmps15 Try.results15 (by simp) fun J0 => ?_
  simp (disch := omega) [-hset_if, -Bool.decide_and, hset_ne, hpc, hsc]
  refine formedR_ok (rs := rs) (hp.frame (fun i hi => by have := hE i hi; simp (disch := omega) [-hset_if, -Bool.decide_and, hset_ne, hsc])) (hs.frame (fun i hi => by have := hD i hi; simp (disch := omega) [-hset_if, -Bool.decide_and, hset_ne, hsc])) (fun i hi => by have := hD i hi; omega) hb ?_
  intro n1 H1 e1 e2
  have e3 : ∀ i, i < n → H1 i = H i := fun i hi => by rw [e2 i (by omega)]; simp (disch := omega) [-hset_if, -Bool.decide_and, hset_ne]
  simp (disch := omega) [-hset_if, -Bool.decide_and, hset_ne]
  refine cif_var (fun h => ?_) (fun h => ?_)
  · have ho := formedB_on h
    simp (disch := omega) [-hset_if, -Bool.decide_and, hset_ne, hpc, hsc, e2]
    refine gif_dec (fun h1 => ?_) (fun h1 => ?_)
    · simp (disch := omega) [-hset_if, -Bool.decide_and, hset_ne, e2]
      have ht : timelyE ps.length dead on left rs now = 6 := by rw [timelyE, if_pos h, if_pos (by omega)]
      have ht' : ¬ timelyE ps.length dead on left rs now = 0 := by omega
      refine Fin_id ?_
      rw [show stepR ps.length dead on left rs now = .tuple #[.agg #[.int .i64 0, .int .i64 0], .int .i64 6] from by rw [stepR, if_neg ht', ht]] at hk
      exact hk _ _ (by omega) (fun i hi => by simp (disch := omega) [-hset_if, -Bool.decide_and, hset_ne, e3])
    simp (disch := omega) [-hset_if, -Bool.decide_and, hset_ne]
    refine gif_dec (fun h2 => ?_) (fun h2 => ?_)
    · simp (disch := omega) [-hset_if, -Bool.decide_and, hset_ne, e2]
      have ht : timelyE ps.length dead on left rs now = 6 := by rw [timelyE, if_pos h, if_pos (by omega)]
      have ht' : ¬ timelyE ps.length dead on left rs now = 0 := by omega
      refine Fin_id ?_
      rw [show stepR ps.length dead on left rs now = .tuple #[.agg #[.int .i64 0, .int .i64 0], .int .i64 6] from by rw [stepR, if_neg ht', ht]] at hk
      exact hk _ _ (by omega) (fun i hi => by simp (disch := omega) [-hset_if, -Bool.decide_and, hset_ne, e3])
    simp (disch := omega) [-hset_if, -Bool.decide_and, hset_ne, e2]
    refine cif_dec (fun h3 => ?_) (fun h3 => ?_)
    · simp (disch := omega) [-hset_if, -Bool.decide_and, hset_ne, e2]
      have ht : timelyE ps.length dead on left rs now = 6 := by rw [timelyE, if_pos h, if_pos (by omega)]
      have ht' : ¬ timelyE ps.length dead on left rs now = 0 := by omega
      refine Fin_id ?_
      rw [show stepR ps.length dead on left rs now = .tuple #[.agg #[.int .i64 0, .int .i64 0], .int .i64 6] from by rw [stepR, if_neg ht', ht]] at hk
      exact hk _ _ (by omega) (fun i hi => by simp (disch := omega) [-hset_if, -Bool.decide_and, hset_ne, e3])
    have ht : timelyE ps.length dead on left rs now = 0 := by rw [timelyE, if_pos h, if_neg (by omega)]
    simp (disch := omega) [-hset_if, -Bool.decide_and, hset_ne, e2]
    refine stepR_ok (rs := rs) (ps := ps) (hs.frame (fun i hi => by have := hD i hi; simp (disch := omega) [-hset_if, -Bool.decide_and, hset_ne, hsc, e3])) (fun i hi => by have := hD i hi; omega) hb h (by omega) (by omega) (by omega) ?_
    intro n2 H2 d1 d2
    obtain ⟨x, y, hxy⟩ := stepS_agg dead on left now rs
    simp (disch := omega) [-hset_if, -Bool.decide_and, hset_ne, d2, e2, hxy]
    refine Fin_id ?_
    rw [show stepR ps.length dead on left rs now = .tuple #[.agg #[.int .i64 x, .int .i64 y], .int .i64 0] from by rw [stepR, if_pos ht, hxy]] at hk
    exact hk _ _ (by omega) (fun i hi => by simp (disch := omega) [-hset_if, -Bool.decide_and, hset_ne, d2, e3])
  · have h' : ¬ formedB ps.length dead on left rs = true := by simp [h]
    have ht : timelyE ps.length dead on left rs now = 1 := by rw [timelyE, if_neg h']
    have ht' : ¬ timelyE ps.length dead on left rs now = 0 := by omega
    simp (disch := omega) [-hset_if, -Bool.decide_and, hset_ne, hpc, hsc, e2]
    refine Fin_id ?_
    rw [show stepR ps.length dead on left rs now = .tuple #[.agg #[.int .i64 0, .int .i64 0], .int .i64 1] from by rw [stepR, if_neg ht', ht]] at hk
    exact hk _ _ (by omega) (fun i hi => by simp (disch := omega) [-hset_if, -Bool.decide_and, hset_ne, e3])
theorem WaitingR_ok (hp : SlR ⟨Try.prog, w0⟩ H E 1 strC pv ps) (hs : SlR ⟨Try.prog, w0⟩ H D 3 Req.cells av rs) (hD : ∀ i, D i → i < n) (hE : ∀ i, E i → i < n) (hb : rs.length < 9223372036854775807)
    (hk : ∀ n' H', n ≤ n' → (∀ i, i < n → H' i = H i) → K (waitR ps.length dead on left rs now) n' H') :
    ACall ⟨Try.prog, w0⟩ 17 [.agg #[.string nm, pv, .int .i64 dead], .agg #[.int .i64 on, .int .i64 left], av, .int .i64 now] K n H := by
  have hpc := hp.cells
  have hsc := hs.cells
  refine ACall.run Try.func17 rfl Try.ntmps17 Try.results17 (by simp) fun J0 => ?_
  simp (disch := omega) [-hset_if, -Bool.decide_and, hset_ne, hpc, hsc]
  refine formedR_ok (rs := rs) (hp.frame (fun i hi => by have := hE i hi; simp (disch := omega) [-hset_if, -Bool.decide_and, hset_ne, hsc])) (hs.frame (fun i hi => by have := hD i hi; simp (disch := omega) [-hset_if, -Bool.decide_and, hset_ne, hsc])) (fun i hi => by have := hD i hi; omega) hb ?_
  intro n1 H1 e1 e2
  have e3 : ∀ i, i < n → H1 i = H i := fun i hi => by rw [e2 i (by omega)]; simp (disch := omega) [-hset_if, -Bool.decide_and, hset_ne]
  simp (disch := omega) [-hset_if, -Bool.decide_and, hset_ne]
  refine cif_var (fun h => ?_) (fun h => ?_)
  · have ho := formedB_on h
    simp (disch := omega) [-hset_if, -Bool.decide_and, hset_ne, hpc, hsc, e2]
    refine gif_dec (fun h1 => ?_) (fun h1 => ?_)
    · simp (disch := omega) [-hset_if, -Bool.decide_and, hset_ne, e2]
      have ht : timelyE ps.length dead on left rs now = 6 := by rw [timelyE, if_pos h, if_pos (by omega)]
      have ht' : ¬ timelyE ps.length dead on left rs now = 0 := by omega
      refine Fin_id ?_
      rw [show waitR ps.length dead on left rs now = .tuple #[.int .i64 0, .int .i64 0, .int .i64 6] from by rw [waitR, if_neg ht', ht]] at hk
      exact hk _ _ (by omega) (fun i hi => by simp (disch := omega) [-hset_if, -Bool.decide_and, hset_ne, e3])
    simp (disch := omega) [-hset_if, -Bool.decide_and, hset_ne]
    refine gif_dec (fun h2 => ?_) (fun h2 => ?_)
    · simp (disch := omega) [-hset_if, -Bool.decide_and, hset_ne, e2]
      have ht : timelyE ps.length dead on left rs now = 6 := by rw [timelyE, if_pos h, if_pos (by omega)]
      have ht' : ¬ timelyE ps.length dead on left rs now = 0 := by omega
      refine Fin_id ?_
      rw [show waitR ps.length dead on left rs now = .tuple #[.int .i64 0, .int .i64 0, .int .i64 6] from by rw [waitR, if_neg ht', ht]] at hk
      exact hk _ _ (by omega) (fun i hi => by simp (disch := omega) [-hset_if, -Bool.decide_and, hset_ne, e3])
    simp (disch := omega) [-hset_if, -Bool.decide_and, hset_ne, e2]
    refine cif_dec (fun h3 => ?_) (fun h3 => ?_)
    · simp (disch := omega) [-hset_if, -Bool.decide_and, hset_ne, e2]
      have ht : timelyE ps.length dead on left rs now = 6 := by rw [timelyE, if_pos h, if_pos (by omega)]
      have ht' : ¬ timelyE ps.length dead on left rs now = 0 := by omega
      refine Fin_id ?_
      rw [show waitR ps.length dead on left rs now = .tuple #[.int .i64 0, .int .i64 0, .int .i64 6] from by rw [waitR, if_neg ht', ht]] at hk
      exact hk _ _ (by omega) (fun i hi => by simp (disch := omega) [-hset_if, -Bool.decide_and, hset_ne, e3])
    have ht : timelyE ps.length dead on left rs now = 0 := by rw [timelyE, if_pos h, if_neg (by omega)]
    have hm : 1 ≤ mxI 1 dead ∧ mxI 1 dead ≤ 3600 := by unfold mxI; split <;> omega
    simp (disch := omega) [-hset_if, -Bool.decide_and, hset_ne, e2]
    refine winnerR_ok (rs := rs) (hs.frame (fun i hi => by have := hD i hi; simp (disch := omega) [-hset_if, -Bool.decide_and, hset_ne, hsc, e3])) ho.2.2.1 hb (formedB_lvl h) ?_
    simp (disch := omega) [-hset_if, -Bool.decide_and, hset_ne, e2]
    refine gif_dec (fun h1 => ?_) (fun h1 => ?_)
    · simp (disch := omega) [-hset_if, -Bool.decide_and, hset_ne, e2]
      refine Fin_id ?_
      rw [show waitR ps.length dead on left rs now = .tuple #[.int .i64 0, .int .i64 0, .int .i64 9] from by rw [waitR, if_pos ht, if_pos (Or.inl h1)]] at hk
      exact hk _ _ (by omega) (fun i hi => by simp (disch := omega) [-hset_if, -Bool.decide_and, hset_ne, e3])
    · simp (disch := omega) [-hset_if, -Bool.decide_and, hset_ne, e2]
      refine cif_beq (fun h2 => ?_) (fun h2 => ?_)
      · simp (disch := omega) [-hset_if, -Bool.decide_and, hset_ne, e2]
        refine Fin_id ?_
        rw [show waitR ps.length dead on left rs now = .tuple #[.int .i64 0, .int .i64 0, .int .i64 9] from by rw [waitR, if_pos ht, if_pos (Or.inr h2)]] at hk
        exact hk _ _ (by omega) (fun i hi => by simp (disch := omega) [-hset_if, -Bool.decide_and, hset_ne, e3])
      · have h3 : ¬ (win on rs < 0 ∨ win on rs = on) := fun hc => hc.elim h1 h2
        simp (disch := omega) [-hset_if, -Bool.decide_and, hset_ne, e2]
        refine cif_dec (fun h4 => ?_) (fun h4 => ?_)
        · simp (disch := omega) [-hset_if, -Bool.decide_and, hset_ne, e2]
          refine AW.draw (X := ⟨_, 58, _, _⟩) (id := 9) mixed (.take 0 <| .take 1 <| .take 2 <| .take 3 <| .take 4 <| .take 5 <| .take 6 <| .take 7 <| .take 8 <| .done) (by kernel_rfl) ?_
          simp (disch := omega) [-hset_if, -Bool.decide_and, hset_ne, e2]
          refine Fin_id ?_
          rw [show waitR ps.length dead on left rs now = .tuple #[.int .i64 (win on rs), .int .i64 (now + mxI 1 dead), .int .i64 0] from by rw [waitR, if_pos ht, if_neg h3, if_pos h4]] at hk
          exact hk _ _ (by omega) (fun i hi => by simp (disch := omega) [-hset_if, -Bool.decide_and, hset_ne, e3])
        · simp (disch := omega) [-hset_if, -Bool.decide_and, hset_ne, e2]
          refine AW.draw (X := ⟨_, 58, _, _⟩) (id := 10) mixed (.take 0 <| .take 1 <| .take 2 <| .take 3 <| .take 4 <| .take 5 <| .take 6 <| .take 7 <| .take 8 <| .take 9 <| .take 10 <| .done) (by kernel_rfl) ?_
          simp (disch := omega) [-hset_if, -Bool.decide_and, hset_ne, e2]
          refine Fin_id ?_
          rw [show waitR ps.length dead on left rs now = .tuple #[.int .i64 (win on rs), .int .i64 (mxI now (left + dead)), .int .i64 0] from by rw [waitR, if_pos ht, if_neg h3, if_neg h4]] at hk
          exact hk _ _ (by omega) (fun i hi => by simp (disch := omega) [-hset_if, -Bool.decide_and, hset_ne, e3])
  · have h' : ¬ formedB ps.length dead on left rs = true := by simp [h]
    have ht : timelyE ps.length dead on left rs now = 1 := by rw [timelyE, if_neg h']
    have ht' : ¬ timelyE ps.length dead on left rs now = 0 := by omega
    simp (disch := omega) [-hset_if, -Bool.decide_and, hset_ne, hpc, hsc, e2]
    refine Fin_id ?_
    rw [show waitR ps.length dead on left rs now = .tuple #[.int .i64 0, .int .i64 0, .int .i64 1] from by rw [waitR, if_neg ht', ht]] at hk
    exact hk _ _ (by omega) (fun i hi => by simp (disch := omega) [-hset_if, -Bool.decide_and, hset_ne, e3])
end Go.Aw.S15
