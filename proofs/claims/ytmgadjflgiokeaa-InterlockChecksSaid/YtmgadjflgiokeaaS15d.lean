/-
  Chapter 15: Start, Winner, timely, Step, Waiting.
-/
import Derived.Test.YtmgadjflgiokeaaS15c
namespace Go.Aw.S15
open Go.RowKit Go.Proofs Go.Aw.Tab
set_option linter.unusedSimpArgs false
set_option linter.unusedVariables false
set_option maxRecDepth 10000
set_option maxHeartbeats 1000000
set_option pp.deepTerms false
set_option pp.deepTerms.threshold 4
set_option pp.maxSteps 1500
attribute [local simp] Req.cells
variable {w0 : World} {n : Nat} {H : Heap} {K : Value → Nat → Heap → Prop}
variable {pv av : Value} {D E : Nat → Prop} {nm : ByteArray} {ps : List ByteArray} {rs : List Req} {dead on left now : Int}
def int64 (x : Int) : Prop := -9223372036854775808 ≤ x ∧ x < 9223372036854775808
theorem start_ok (hk : ∀ n' H', n ≤ n' → (∀ i, i < n → H' i = H i) → K (.agg #[.int .i64 (-1), .int .i64 now]) n' H') : ACall ⟨Try.prog, w0⟩ 18 [.int .i64 now] K n H := by
  refine ACall.run Try.func18 rfl Try.ntmps18 Try.results18 (by simp) fun J0 => ?_
  simp (disch := omega) [-hset_if, -Bool.decide_and, hset_ne]
  refine Fin_id ?_
  exact hk _ _ (by omega) (fun i hi => by simp (disch := omega) only [hset_ne])
def winnerR (np : Nat) (dead on left : Int) (rs : List Req) : Value := if formedB np dead on left rs = true then .tuple #[.int .i64 (win on rs), .int .i64 0] else .tuple #[.int .i64 0, .int .i64 1]
theorem formedB_on {np : Nat} (h : formedB np dead on left rs = true) : (rs.length : Int) = np ∧ -1 ≤ on ∧ on < rs.length ∧ 0 ≤ left ∧ 0 ≤ dead ∧ dead ≤ 3600 := by
  have := of_decide_eq_true h
  omega
theorem Winner_ok (hp : SlR ⟨Try.prog, w0⟩ H E 1 strC pv ps) (hs : SlR ⟨Try.prog, w0⟩ H D 3 Req.cells av rs) (hD : ∀ i, D i → i < n) (hE : ∀ i, E i → i < n) (hb : rs.length < 9223372036854775807)
    (hk : ∀ n' H', n ≤ n' → (∀ i, i < n → H' i = H i) → K (winnerR ps.length dead on left rs) n' H') :
    ACall ⟨Try.prog, w0⟩ 12 [.agg #[.string nm, pv, .int .i64 dead], .agg #[.int .i64 on, .int .i64 left], av] K n H := by
  have hpc := hp.cells
  have hsc := hs.cells
  refine ACall.run Try.func12 rfl Try.ntmps12 Try.results12 (by simp) fun J0 => ?_
  simp (disch := omega) [-hset_if, -Bool.decide_and, hset_ne, hpc, hsc]
  refine formed_ok (rs := rs) (hp.frame (fun i hi => by have := hE i hi; simp (disch := omega) [-hset_if, -Bool.decide_and, hset_ne, hsc])) (hs.frame (fun i hi => by have := hD i hi; simp (disch := omega) [-hset_if, -Bool.decide_and, hset_ne, hsc])) (fun i hi => by have := hD i hi; omega) hb ?_
  intro n1 H1 e1 e2
  have e3 : ∀ i, i < n → H1 i = H i := fun i hi => by rw [e2 i (by omega)]; simp (disch := omega) [-hset_if, -Bool.decide_and, hset_ne]
  simp (disch := omega) [-hset_if, -Bool.decide_and, hset_ne]
  refine cif_var (fun h => ?_) (fun h => ?_)
  · have ho := formedB_on h
    simp (disch := omega) [-hset_if, -Bool.decide_and, hset_ne, hpc, hsc, e2]
    refine winner_ok (rs := rs) (hs.frame (fun i hi => by have := hD i hi; simp (disch := omega) [-hset_if, -Bool.decide_and, hset_ne, hsc, e3])) (fun i hi => by have := hD i hi; omega) ho.2.2.1 hb ?_
    intro n2 H2 d1 d2
    simp (disch := omega) [-hset_if, -Bool.decide_and, hset_ne]
    refine Fin_id ?_
    rw [show winnerR ps.length dead on left rs = .tuple #[.int .i64 (win on rs), .int .i64 0] from by simp [winnerR, h]] at hk
    exact hk _ _ (by omega) (fun i hi => by simp (disch := omega) [-hset_if, -Bool.decide_and, hset_ne, d2, e3])
  · simp (disch := omega) [-hset_if, -Bool.decide_and, hset_ne, hpc, hsc, e2]
    refine Fin_id ?_
    rw [show winnerR ps.length dead on left rs = .tuple #[.int .i64 0, .int .i64 1] from by simp [winnerR, h]] at hk
    exact hk _ _ (by omega) (fun i hi => by simp (disch := omega) [-hset_if, -Bool.decide_and, hset_ne, e3])
def timelyE (np : Nat) (dead on left : Int) (rs : List Req) (now : Int) : Int := if formedB np dead on left rs = true then (if now < 0 ∨ 6311433599 < now ∨ now < left then 6 else 0) else 1
theorem timely_ok (hp : SlR ⟨Try.prog, w0⟩ H E 1 strC pv ps) (hs : SlR ⟨Try.prog, w0⟩ H D 3 Req.cells av rs) (hD : ∀ i, D i → i < n) (hE : ∀ i, E i → i < n) (hb : rs.length < 9223372036854775807)
    (hk : ∀ n' H', n ≤ n' → (∀ i, i < n → H' i = H i) → K (.int .i64 (timelyE ps.length dead on left rs now)) n' H') :
    ACall ⟨Try.prog, w0⟩ 39 [.agg #[.string nm, pv, .int .i64 dead], .agg #[.int .i64 on, .int .i64 left], av, .int .i64 now] K n H := by
  have hpc := hp.cells
  have hsc := hs.cells
  refine ACall.run Try.func39 rfl Try.ntmps39 Try.results39 (by simp) fun J0 => ?_
  simp (disch := omega) [-hset_if, -Bool.decide_and, hset_ne, hpc, hsc]
  refine formed_ok (rs := rs) (hp.frame (fun i hi => by have := hE i hi; simp (disch := omega) [-hset_if, -Bool.decide_and, hset_ne, hsc])) (hs.frame (fun i hi => by have := hD i hi; simp (disch := omega) [-hset_if, -Bool.decide_and, hset_ne, hsc])) (fun i hi => by have := hD i hi; omega) hb ?_
  intro n1 H1 e1 e2
  have e3 : ∀ i, i < n → H1 i = H i := fun i hi => by rw [e2 i (by omega)]; simp (disch := omega) [-hset_if, -Bool.decide_and, hset_ne]
  simp (disch := omega) [-hset_if, -Bool.decide_and, hset_ne]
  refine cif_var (fun h => ?_) (fun h => ?_)
  · have ho := formedB_on h
    simp (disch := omega) [-hset_if, -Bool.decide_and, hset_ne, hpc, hsc, e2]
    refine gif_dec (fun h1 => ?_) (fun h1 => ?_)
    · simp (disch := omega) [-hset_if, -Bool.decide_and, hset_ne]
      refine Fin_id ?_
      rw [show timelyE ps.length dead on left rs now = 6 from by rw [timelyE, if_pos h, if_pos (by omega)]] at hk
      exact hk _ _ (by omega) (fun i hi => by simp (disch := omega) [-hset_if, -Bool.decide_and, hset_ne, e3])
    simp (disch := omega) [-hset_if, -Bool.decide_and, hset_ne]
    refine gif_dec (fun h2 => ?_) (fun h2 => ?_)
    · simp (disch := omega) [-hset_if, -Bool.decide_and, hset_ne]
      refine Fin_id ?_
      rw [show timelyE ps.length dead on left rs now = 6 from by rw [timelyE, if_pos h, if_pos (by omega)]] at hk
      exact hk _ _ (by omega) (fun i hi => by simp (disch := omega) [-hset_if, -Bool.decide_and, hset_ne, e3])
    simp (disch := omega) [-hset_if, -Bool.decide_and, hset_ne, e2]
    refine cif_dec (fun h3 => ?_) (fun h3 => ?_)
    · simp (disch := omega) [-hset_if, -Bool.decide_and, hset_ne]
      refine Fin_id ?_
      rw [show timelyE ps.length dead on left rs now = 6 from by rw [timelyE, if_pos h, if_pos (by omega)]] at hk
      exact hk _ _ (by omega) (fun i hi => by simp (disch := omega) [-hset_if, -Bool.decide_and, hset_ne, e3])
    simp (disch := omega) [-hset_if, -Bool.decide_and, hset_ne]
    refine Fin_id ?_
    rw [show timelyE ps.length dead on left rs now = 0 from by rw [timelyE, if_pos h, if_neg (by omega)]] at hk
    exact hk _ _ (by omega) (fun i hi => by simp (disch := omega) [-hset_if, -Bool.decide_and, hset_ne, e3])
  · simp (disch := omega) [-hset_if, -Bool.decide_and, hset_ne, hpc, hsc, e2]
    refine Fin_id ?_
    rw [show timelyE ps.length dead on left rs now = 1 from by simp [timelyE, h]] at hk
    exact hk _ _ (by omega) (fun i hi => by simp (disch := omega) [-hset_if, -Bool.decide_and, hset_ne, e3])
theorem timelyE_0 {np : Nat} (h : timelyE np dead on left rs now = 0) : formedB np dead on left rs = true ∧ 0 ≤ now ∧ now ≤ 6311433599 ∧ left ≤ now := by
  unfold timelyE at h
  split at h
  · rename_i h1
    split at h
    · omega
    · exact ⟨h1, by omega⟩
  · omega
def stepS (dead on left : Int) (rs : List Req) (now : Int) : Value :=
  if 0 ≤ on ∧ on ≠ win on rs then .agg #[.int .i64 (-1), .int .i64 now] else if on < 0 ∧ 0 ≤ win on rs ∧ dead ≤ now - left then .agg #[.int .i64 (win on rs), .int .i64 left] else .agg #[.int .i64 on, .int .i64 left]
def stepR (np : Nat) (dead on left : Int) (rs : List Req) (now : Int) : Value :=
  if timelyE np dead on left rs now = 0 then .tuple #[stepS dead on left rs now, .int .i64 0] else .tuple #[.agg #[.int .i64 0, .int .i64 0], .int .i64 (timelyE np dead on left rs now)]
theorem Step_ok (hp : SlR ⟨Try.prog, w0⟩ H E 1 strC pv ps) (hs : SlR ⟨Try.prog, w0⟩ H D 3 Req.cells av rs) (hD : ∀ i, D i → i < n) (hE : ∀ i, E i → i < n) (hb : rs.length < 9223372036854775807)
    (hk : ∀ n' H', n ≤ n' → (∀ i, i < n → H' i = H i) → K (stepR ps.length dead on left rs now) n' H') :
    ACall ⟨Try.prog, w0⟩ 14 [.agg #[.string nm, pv, .int .i64 dead], .agg #[.int .i64 on, .int .i64 left], av, .int .i64 now] K n H := by
  have hpc := hp.cells
  have hsc := hs.cells
  refine ACall.run Try.func14 rfl Try.ntmps14 Try.results14 (by simp) fun J0 => ?_
  simp (disch := omega) [-hset_if, -Bool.decide_and, hset_ne, hpc, hsc]
  refine timely_ok (rs := rs) (hp.frame (fun i hi => by have := hE i hi; simp (disch := omega) [-hset_if, -Bool.decide_and, hset_ne, hsc])) (hs.frame (fun i hi => by have := hD i hi; simp (disch := omega) [-hset_if, -Bool.decide_and, hset_ne, hsc])) (fun i hi => by have := hD i hi; omega) (fun i hi => by have := hE i hi; omega) hb ?_
  intro n1 H1 e1 e2
  have e3 : ∀ i, i < n → H1 i = H i := fun i hi => by rw [e2 i (by omega)]; simp (disch := omega) [-hset_if, -Bool.decide_and, hset_ne]
  simp (disch := omega) [-hset_if, -Bool.decide_and, hset_ne]
  refine cif_bne (fun h => ?_) (fun h => ?_)
  · obtain ⟨h0, hn0, hn1, hl⟩ := timelyE_0 h
    have ho := formedB_on h0
    simp (disch := omega) [-hset_if, -Bool.decide_and, hset_ne, hpc, hsc, e2]
    refine winner_ok (rs := rs) (hs.frame (fun i hi => by have := hD i hi; simp (disch := omega) [-hset_if, -Bool.decide_and, hset_ne, hsc, e3])) (fun i hi => by have := hD i hi; omega) ho.2.2.1 hb ?_
    intro n2 H2 d1 d2
    simp (disch := omega) [-hset_if, -Bool.decide_and, hset_ne, d2, e2]
    refine gif_dec (fun h1 => ?_) (fun h1 => ?_)
    · simp (disch := omega) [-hset_if, -Bool.decide_and, hset_ne, d2, e2]
      refine cif_bne (fun h2 => ?_) (fun h2 => ?_)
      · have g1 : ¬ on < 0 := by omega
        simp (disch := omega) [-hset_if, -Bool.decide_and, hset_ne, d2, e2, g1]
        refine Fin_id ?_
        rw [show stepR ps.length dead on left rs now = .tuple #[(.agg #[.int .i64 on, .int .i64 left]), .int .i64 0] from by rw [stepR, if_pos h, stepS, if_neg (by omega), if_neg (by omega)]] at hk
        exact hk _ _ (by omega) (fun i hi => by simp (disch := omega) [-hset_if, -Bool.decide_and, hset_ne, d2, e3])
      · simp (disch := omega) [-hset_if, -Bool.decide_and, hset_ne, d2, e2]
        refine start_ok ?_
        intro n3 H3 f1 f2
        simp (disch := omega) [-hset_if, -Bool.decide_and, hset_ne, d2, e2, f2]
        refine Fin_id ?_
        rw [show stepR ps.length dead on left rs now = .tuple #[(.agg #[.int .i64 (-1), .int .i64 now]), .int .i64 0] from by rw [stepR, if_pos h, stepS, if_pos ⟨h1, h2⟩]] at hk
        exact hk _ _ (by omega) (fun i hi => by simp (disch := omega) [-hset_if, -Bool.decide_and, hset_ne, f2, d2, e3])
    · have g1 : on < 0 := by omega
      simp (disch := omega) [-hset_if, -Bool.decide_and, hset_ne, d2, e2, g1]
      refine gif_dec (fun h2 => ?_) (fun h2 => ?_)
      · simp (disch := omega) [-hset_if, -Bool.decide_and, hset_ne, d2, e2]
        refine cif_dec (fun h3 => ?_) (fun h3 => ?_)
        · simp (disch := omega) [-hset_if, -Bool.decide_and, hset_ne, d2, e2]
          refine Fin_id ?_
          rw [show stepR ps.length dead on left rs now = .tuple #[(.agg #[.int .i64 (win on rs), .int .i64 left]), .int .i64 0] from by rw [stepR, if_pos h, stepS, if_neg (by omega), if_pos ⟨g1, h2, h3⟩]] at hk
          exact hk _ _ (by omega) (fun i hi => by simp (disch := omega) [-hset_if, -Bool.decide_and, hset_ne, d2, e3])
        · simp (disch := omega) [-hset_if, -Bool.decide_and, hset_ne, d2, e2]
          refine Fin_id ?_
          rw [show stepR ps.length dead on left rs now = .tuple #[(.agg #[.int .i64 on, .int .i64 left]), .int .i64 0] from by rw [stepR, if_pos h, stepS, if_neg (by omega), if_neg (by omega)]] at hk
          exact hk _ _ (by omega) (fun i hi => by simp (disch := omega) [-hset_if, -Bool.decide_and, hset_ne, d2, e3])
      · simp (disch := omega) [-hset_if, -Bool.decide_and, hset_ne, d2, e2]
        refine Fin_id ?_
        rw [show stepR ps.length dead on left rs now = .tuple #[(.agg #[.int .i64 on, .int .i64 left]), .int .i64 0] from by rw [stepR, if_pos h, stepS, if_neg (by omega), if_neg (by omega)]] at hk
        exact hk _ _ (by omega) (fun i hi => by simp (disch := omega) [-hset_if, -Bool.decide_and, hset_ne, d2, e3])
  · simp (disch := omega) [-hset_if, -Bool.decide_and, hset_ne, hpc, hsc, e2]
    refine Fin_id ?_
    rw [show stepR ps.length dead on left rs now = .tuple #[.agg #[.int .i64 0, .int .i64 0], .int .i64 (timelyE ps.length dead on left rs now)] from by rw [stepR, if_neg h]] at hk
    exact hk _ _ (by omega) (fun i hi => by simp (disch := omega) [-hset_if, -Bool.decide_and, hset_ne, e3])
def waitR (np : Nat) (dead on left : Int) (rs : List Req) (now : Int) : Value :=
  if timelyE np dead on left rs now = 0 then
    (if win on rs < 0 ∨ win on rs = on then .tuple #[.int .i64 0, .int .i64 0, .int .i64 9]
     else if 0 ≤ on then .tuple #[.int .i64 (win on rs), .int .i64 (now + mxI 1 dead), .int .i64 0]
     else .tuple #[.int .i64 (win on rs), .int .i64 (mxI now (left + dead)), .int .i64 0])
  else .tuple #[.int .i64 0, .int .i64 0, .int .i64 (timelyE np dead on left rs now)]
theorem Waiting_ok (hp : SlR ⟨Try.prog, w0⟩ H E 1 strC pv ps) (hs : SlR ⟨Try.prog, w0⟩ H D 3 Req.cells av rs) (hD : ∀ i, D i → i < n) (hE : ∀ i, E i → i < n) (hb : rs.length < 9223372036854775807)
    (hk : ∀ n' H', n ≤ n' → (∀ i, i < n → H' i = H i) → K (waitR ps.length dead on left rs now) n' H') :
    ACall ⟨Try.prog, w0⟩ 16 [.agg #[.string nm, pv, .int .i64 dead], .agg #[.int .i64 on, .int .i64 left], av, .int .i64 now] K n H := by
  have hpc := hp.cells
  have hsc := hs.cells
  refine ACall.run Try.func16 rfl Try.ntmps16 Try.results16 (by simp) fun J0 => ?_
  simp (disch := omega) [-hset_if, -Bool.decide_and, hset_ne, hpc, hsc]
  refine timely_ok (rs := rs) (hp.frame (fun i hi => by have := hE i hi; simp (disch := omega) [-hset_if, -Bool.decide_and, hset_ne, hsc])) (hs.frame (fun i hi => by have := hD i hi; simp (disch := omega) [-hset_if, -Bool.decide_and, hset_ne, hsc])) (fun i hi => by have := hD i hi; omega) (fun i hi => by have := hE i hi; omega) hb ?_
  intro n1 H1 e1 e2
  have e3 : ∀ i, i < n → H1 i = H i := fun i hi => by rw [e2 i (by omega)]; simp (disch := omega) [-hset_if, -Bool.decide_and, hset_ne]
  simp (disch := omega) [-hset_if, -Bool.decide_and, hset_ne]
  refine cif_bne (fun h => ?_) (fun h => ?_)
  · obtain ⟨h0, hn0, hn1, hl⟩ := timelyE_0 h
    have ho := formedB_on h0
    have hm : 1 ≤ mxI 1 dead ∧ mxI 1 dead ≤ 3600 := by unfold mxI; split <;> omega
    simp (disch := omega) [-hset_if, -Bool.decide_and, hset_ne, hpc, hsc, e2]
    refine winner_ok (rs := rs) (hs.frame (fun i hi => by have := hD i hi; simp (disch := omega) [-hset_if, -Bool.decide_and, hset_ne, hsc, e3])) (fun i hi => by have := hD i hi; omega) ho.2.2.1 hb ?_
    intro n2 H2 d1 d2
    simp (disch := omega) [-hset_if, -Bool.decide_and, hset_ne, d2, e2]
    refine gif_dec (fun h1 => ?_) (fun h1 => ?_)
    · simp (disch := omega) [-hset_if, -Bool.decide_and, hset_ne, d2, e2]
      refine Fin_id ?_
      rw [show waitR ps.length dead on left rs now = .tuple #[.int .i64 0, .int .i64 0, .int .i64 9] from by rw [waitR, if_pos h, if_pos (Or.inl h1)]] at hk
      exact hk _ _ (by omega) (fun i hi => by simp (disch := omega) [-hset_if, -Bool.decide_and, hset_ne, d2, e3])
    · simp (disch := omega) [-hset_if, -Bool.decide_and, hset_ne, d2, e2]
      refine cif_beq (fun h2 => ?_) (fun h2 => ?_)
      · simp (disch := omega) [-hset_if, -Bool.decide_and, hset_ne, d2, e2]
        refine Fin_id ?_
        rw [show waitR ps.length dead on left rs now = .tuple #[.int .i64 0, .int .i64 0, .int .i64 9] from by rw [waitR, if_pos h, if_pos (Or.inr h2)]] at hk
        exact hk _ _ (by omega) (fun i hi => by simp (disch := omega) [-hset_if, -Bool.decide_and, hset_ne, d2, e3])
      · have h3 : ¬ (win on rs < 0 ∨ win on rs = on) := fun hc => hc.elim h1 h2
        simp (disch := omega) [-hset_if, -Bool.decide_and, hset_ne, d2, e2]
        refine cif_dec (fun h4 => ?_) (fun h4 => ?_)
        · simp (disch := omega) [-hset_if, -Bool.decide_and, hset_ne, d2, e2]
          refine AW.draw (X := ⟨_, 50, _, _⟩) (id := 8) mixed (.take 0 <| .take 1 <| .take 2 <| .take 3 <| .take 4 <| .take 5 <| .take 6 <| .take 7 <| .take 8 <| .done) (by kernel_rfl) ?_
          simp (disch := omega) [-hset_if, -Bool.decide_and, hset_ne, d2, e2]
          refine Fin_id ?_
          rw [show waitR ps.length dead on left rs now = .tuple #[.int .i64 (win on rs), .int .i64 (now + mxI 1 dead), .int .i64 0] from by rw [waitR, if_pos h, if_neg h3, if_pos h4]] at hk
          exact hk _ _ (by omega) (fun i hi => by simp (disch := omega) [-hset_if, -Bool.decide_and, hset_ne, d2, e3])
        · simp (disch := omega) [-hset_if, -Bool.decide_and, hset_ne, d2, e2]
          refine AW.draw (X := ⟨_, 50, _, _⟩) (id := 9) mixed (.take 0 <| .take 1 <| .take 2 <| .take 3 <| .take 4 <| .take 5 <| .take 6 <| .take 7 <| .take 8 <| .take 9 <| .take 10 <| .done) (by kernel_rfl) ?_
          simp (disch := omega) [-hset_if, -Bool.decide_and, hset_ne, d2, e2]
          refine Fin_id ?_
          rw [show waitR ps.length dead on left rs now = .tuple #[.int .i64 (win on rs), .int .i64 (mxI now (left + dead)), .int .i64 0] from by rw [waitR, if_pos h, if_neg h3, if_neg h4]] at hk
          exact hk _ _ (by omega) (fun i hi => by simp (disch := omega) [-hset_if, -Bool.decide_and, hset_ne, d2, e3])
  · simp (disch := omega) [-hset_if, -Bool.decide_and, hset_ne, hpc, hsc, e2]
    refine Fin_id ?_
    rw [show waitR ps.length dead on left rs now = .tuple #[.int .i64 0, .int .i64 0, .int .i64 (timelyE ps.length dead on left rs now)] from by rw [waitR, if_neg h]] at hk
    exact hk _ _ (by omega) (fun i hi => by simp (disch := omega) [-hset_if, -Bool.decide_and, hset_ne, e3])
end Go.Aw.S15
