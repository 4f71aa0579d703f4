/-
  Chapter 34: the specification's pieces; the statement OverridePieces.
-/
import Derived.Test.YtlcngkigfcacmaaS34l
import Derived.Test.YtlcngkigfcacmaaS34k
namespace Go.Aw.S34
open Go.RowKit Go.Proofs Go.Aw.Tab
set_option linter.unusedSimpArgs false
set_option linter.unusedVariables false
set_option maxRecDepth 10000
set_option maxHeartbeats 1000000
set_option pp.deepTerms false
set_option pp.deepTerms.threshold 4
set_option pp.maxSteps 1500
attribute [local simp] Hold.cells intC range_get Pc.cells
variable {w0 : World} {n : Nat} {H : Heap} {K : Value → Nat → Heap → Prop} {s : ByteArray} {pv : Value} {D : Nat → Prop} {l : List Hold} {t fr to : Int}
structure RP where
  k : Nat
  v : Value
  E : Nat → Prop
  acc : List Pc
  a : Int
theorem piecesR_ok (hs : SlR ⟨Try.prog, w0⟩ H D 6 Hold.cells pv l) (hD : ∀ i, D i → i < n) (hb : l.length < 4611686018427387904) (hn : ∀ x ∈ l, x.nm.size ≤ 4611686018427387903) (hc : chk l = 0) {k : Nat} (hk0 : k ≤ 1000) (hC : Cmp l to k fr)
    (hk : ∀ n' H' v E, n ≤ n' → (∀ i, i < n → H' i = H i) → (∀ i, E i → n ≤ i) → OwR ⟨Try.prog, w0⟩ H' n' E 33 3 Pc.cells v (rpF l to k fr) → K v n' H') : ACall ⟨Try.prog, w0⟩ 14 [pv, .int .i64 fr, .int .i64 to] K n H := by
  have hA : ∀ x, atC (chkR l) l x = gov l x := fun x => by rw [chk_eq, hc]; rfl
  refine ACall.run Try.func14 rfl Try.ntmps14 Try.results14 (by simp) fun J0 => ?_
  simp (disch := omega) [-hset_if, -Bool.decide_and, hset_ne]
  generalize hT : rpF l to k fr = T at hk
  refine AW.while (σ := RP) (fun s => s.k) (fun s => [(0, pv), (2, .int .i64 to), (1, .int .i64 s.a), (7, s.v)])
    (fun s n2 H2 => n ≤ n2 ∧ (∀ i, i < n → H2 i = H i) ∧ OwR ⟨Try.prog, w0⟩ H2 n2 s.E 33 3 Pc.cells s.v s.acc ∧ (∀ i, s.E i → n ≤ i) ∧ s.acc ++ rpF l to s.k s.a = T ∧ s.acc.length + s.k ≤ 1000 ∧ Cmp l to s.k s.a)
    ⟨k, .slice (some ⟨new n, 0, none⟩) 0 0, (· = n), [], fr⟩ ?_ ?_ ?_
  · simp (disch := omega) [-hset_if, -Bool.decide_and, hset_ne]
  · exact ⟨by omega, (fun i hi => by simp (disch := omega) only [hset_ne]), OwR.empty (by omega) (by omega) (hset_same _ _ _), fun i hi => by omega, hT, by simpa using hk0, hC⟩
  clear hC hT hk0
  rintro ⟨k, v, E, acc, a⟩ n2 H2 ⟨g2, g3, g4, g5, g6, g7, g8⟩
  dsimp only at g2 g3 g4 g5 g6 g7 g8 ⊢
  have hs2 : SlR ⟨Try.prog, w0⟩ H2 D 6 Hold.cells pv l := hs.frame (fun i hi => g3 i (hD i hi))
  have hD2 : ∀ i, D i → i < n2 := fun i hi => by have := hD i hi; omega
  simp (disch := omega) [-hset_if, -Bool.decide_and, hset_ne]
  refine cif_dec (fun ha => ?_) (fun ha => ?_)
  rotate_left
  · rw [rpF_end ha, List.append_nil] at g6
    rw [g6] at g4
    simp (disch := omega) [-hset_if, -Bool.decide_and, hset_ne]
    refine Fin_id (hk _ _ _ _ (by omega) g3 g5 g4)
  obtain ⟨k, rfl⟩ : ∃ m, k = m + 1 := by
    cases k with
    | zero => exact absurd ha g8
    | succ m => exact ⟨m, rfl⟩
  rw [rpF, if_pos ha] at g6
  have g9 := g8 ha
  simp (disch := omega) [-hset_if, -Bool.decide_and, hset_ne]
  refine nextR_ok hs2 hD2 hb hn ?_
  have hx : nx2 l to a = if rnx l a < 0 ∨ to < rnx l a then to else rnx l a := rfl
  generalize rnx l a = e at hx ⊢
  generalize nx2 l to a = e2 at hx g6 g9
  simp (disch := omega) [-hset_if, -Bool.decide_and, hset_ne]
  repeat' (first | (with_reducible intro _; first | (exfalso; omega) | (simp (disch := omega) [-hset_if, -Bool.decide_and, hset_ne]) | skip) | (with_reducible refine And.intro ?_ ?_; omega) | with_reducible apply cif_dec | with_reducible apply cif_beq | with_reducible apply cif_bne | with_reducible apply cif_var | with_reducible apply gif_dec | with_reducible apply gif_ndec | with_reducible apply gif_beq | with_reducible apply gif_bne | with_reducible apply gif_nbeq | with_reducible apply gif_var)
  all_goals first
    | (rw [if_pos (by omega)] at hx; subst hx)
    | (rw [if_neg (by omega)] at hx; subst hx)
  all_goals
    refine atR_ok hs2 hD2 hb hn ?_
    rw [hA]
    simp (disch := omega) [-hset_if, -Bool.decide_and, hset_ne]
    refine g4.push elemS30 zero33 rfl ⟨a, _, gov l a⟩ rfl rfl rfl (by omega) (by omega) ?_
    intro v2 n3 H3 E2 p1 p2 p3 p4 p5
    simp (disch := omega) [-hset_if, -Bool.decide_and, hset_ne]
    have hE2 : ∀ i, E2 i → n ≤ i := fun i hi => (p4 i hi).elim (g5 i) (fun h => by omega)
    exact Next.mk ⟨k, v2, E2, acc ++ [⟨a, _, gov l a⟩], _⟩ (by first | omega | (dsimp only; omega)) (by simp (disch := omega) [-hset_if, -Bool.decide_and, hset_ne]) ⟨by omega, fun i hi => by rw [p3 i (by omega) (fun e => by have := g5 i e; omega)]; exact g3 i hi, p5, hE2, by rw [List.append_assoc]; exact g6, by simp; omega, g9⟩
theorem piecesLaw_ok (hs : SlR ⟨Try.prog, w0⟩ H D 6 Hold.cells pv l) (hD : ∀ i, D i → i < n) (hr : Res n H K (.bool true)) :
    ACall ⟨Try.prog, w0⟩ 3 [pv, .int .i64 fr, .int .i64 to] K n H := by
  refine ACall.run Try.func3 rfl Try.ntmps3 Try.results3 (by simp) fun J0 => ?_
  simp (disch := omega) [-hset_if, -Bool.decide_and, hset_ne]
  refine awake_ok ?_
  simp (disch := omega) [-hset_if, -Bool.decide_and, hset_ne]
  refine few_ok hs hD ?_
  simp (disch := omega) [-hset_if, -Bool.decide_and, hset_ne]
  refine cif_var (fun hf => ?_) (fun hf => ?_)
  rotate_left
  · simp (disch := omega) [-hset_if, -Bool.decide_and, hset_ne]
    exact hr.fin rfl (by omega) (fun i hi => by simp (disch := omega) only [hset_ne])
  have hn := few_nm hf
  have hb := few_len hf
  simp (disch := omega) [-hset_if, -Bool.decide_and, hset_ne]
  refine pieces_ok hs hD hb ?_
  intro n1 H1 v E p1 p2 p3 p4
  have hs1 : SlR ⟨Try.prog, w0⟩ H1 D 6 Hold.cells pv l := hs.frame (fun i hi => p2 i (hD i hi))
  have hD1 : ∀ i, D i → i < n1 := fun i hi => by have := hD i hi; omega
  have hvl := p4.sl.lenK
  simp (disch := omega) [-hset_if, -Bool.decide_and, hset_ne]
  refine checkR_ok hs1 hD1 hb hn ?_
  rw [chk_eq]
  simp (disch := omega) [-hset_if, -Bool.decide_and, hset_ne]
  refine cif_bne (fun hc => ?_) (fun hc => ?_)
  rotate_left
  · have e1 : pcE l fr to = chk l := if_neg hc
    have e2 : pcP l fr to = [] := if_neg hc
    rw [e2] at hvl
    rw [e1]
    simp (disch := omega) [-hset_if, -Bool.decide_and, hset_ne, hvl]
    exact hr.fin rfl (by omega) p2
  simp (disch := omega) [-hset_if, -Bool.decide_and, hset_ne]
  have e1 : pcE l fr to = if to < fr then 1 else 0 := if_pos hc
  refine cif_dec (fun h1 => ?_) (fun h1 => ?_)
  · have e2 : pcP l fr to = [] := by unfold pcP; rw [if_pos hc, if_neg (by omega)]
    rw [if_pos h1] at e1
    rw [e2] at hvl
    rw [e1]
    simp (disch := omega) [-hset_if, -Bool.decide_and, hset_ne, hvl]
    exact hr.fin rfl (by omega) p2
  rw [if_neg h1] at e1
  rw [e1]
  simp (disch := omega) [-hset_if, -Bool.decide_and, hset_ne]
  have h64 := chk_len hc
  obtain ⟨T, hT1, hT2, hT3⟩ : ∃ T, pcP l fr to = T ∧ rpF l to 200 fr = T ∧ Cmp l to 200 fr := by
    by_cases h2 : fr < to
    · have := pcP_rp hc h2 (k := 200) (by omega)
      exact ⟨_, rfl, this.1.symm, this.2⟩
    · exact ⟨[], by unfold pcP; rw [if_pos hc, if_neg h2], rpF_end h2, Cmp_end h2⟩
  rw [hT1] at p4 hvl
  have hTl : T.length ≤ 200 := by rw [← hT2]; exact rpF_len _ _
  refine piecesR_ok hs1 hD1 hb hn hc (by omega) hT3 ?_
  rw [hT2]
  intro n2 H2 u F q1 q2 q3 q4
  have hv2 : SlR ⟨Try.prog, w0⟩ H2 E 3 Pc.cells v T := p4.sl.frame (fun i hi => q2 i (p4.lt i hi))
  have hu2 := q4.sl
  have hul := q4.sl.lenK
  have qf : ∀ i, i < n → H2 i = H i := fun i hi => by rw [q2 i (by omega), p2 i hi]
  clear p4 q4 hT1 hT2 hT3 p3 q3
  simp (disch := omega) [-hset_if, -Bool.decide_and, hset_ne, hvl, hul]
  refine AW.while (σ := Nat) (fun j => T.length - j) (fun j => [(7, v), (10, u), (11, .int .i64 j)])
    (fun j n3 H3 => n3 = n2 ∧ H3 = H2 ∧ j ≤ T.length) 0 ?_ ?_ ?_
  · simp (disch := omega) [-hset_if, -Bool.decide_and, hset_ne]
  · exact ⟨rfl, rfl, by omega⟩
  rintro j n3 H3 ⟨rfl, rfl, g1⟩
  simp (disch := omega) [-hset_if, -Bool.decide_and, hset_ne, hvl]
  refine cif_dec (fun hj => ?_) (fun hj => ?_)
  · simp (disch := omega) [-hset_if, -Bool.decide_and, hset_ne]
    refine AW.draw (X := ⟨_, 74, _, _⟩) (id := 17) mixed (.take 0 <| .take 1 <| .take 2 <| .take 3 <| .take 4 <| .take 5 <| .take 6 <| .take 7 <| .take 8 <| .done) (by kernel_rfl) ?_
    simp (disch := omega) [-hset_if, -Bool.decide_and, hset_ne, hv2.ix elemS25, hu2.ix elemS30, hv2.load0 shp34, hu2.load0 shp33]
    exact Next.mk (j + 1) (by first | omega | (dsimp only; omega)) (by simp (disch := omega) [-hset_if, -Bool.decide_and, hset_ne]) ⟨rfl, rfl, by omega⟩
  · simp (disch := omega) [-hset_if, -Bool.decide_and, hset_ne]
    exact hr.fin rfl (by omega) qf
end Go.Aw.S34
