/-
  Chapter 15: InterlockWaits.
-/
import Derived.Test.YtmgadjflgiokeaaS15u
namespace Go.Aw.S15
open Go.RowKit Go.Proofs Go.Aw.Tab
set_option linter.unusedSimpArgs false
set_option linter.unusedVariables false
set_option maxRecDepth 10000
set_option maxHeartbeats 1000000
set_option pp.deepTerms false
set_option pp.deepTerms.threshold 4
set_option pp.maxSteps 1500
variable {w0 : World} {n : Nat} {H : Heap} {K : Value → Nat → Heap → Prop}
variable {pv lv : Value} {nm : ByteArray} {ps : List ByteArray} {dead on left now : Int}
attribute [local simp] IRow.cells intC Sta.cells Req.cells
structure WS where
  t : Nat
  s : Sta
theorem winnerR_1 {np : Nat} {rs : List Req} (h : formedB np dead on left rs = true) : winnerR np dead on left rs = .tuple #[.int .i64 (win on rs), .int .i64 0] := by rw [winnerR, if_pos h]
theorem winnerR_0 {np : Nat} {rs : List Req} (h : ¬ formedB np dead on left rs = true) : winnerR np dead on left rs = .tuple #[.int .i64 0, .int .i64 1] := by rw [winnerR, if_neg h]
theorem fin_true {n0 n : Nat} {H : Heap} {b : Bool} (hk : ∀ n' H', K (.bool true) n' H') (e : b = true) : Fin n0 K (.bool b) n H := Fin_id (e ▸ hk n H)
theorem waits_ok {ls : List Int} (hp : ∀ G, SlR ⟨Try.prog, w0⟩ G (fun _ => False) 1 strC pv ps) (hs : ∀ G, SlR ⟨Try.prog, w0⟩ G (fun _ => False) 1 intC lv ls) (hk : ∀ n' H', K (.bool true) n' H') :
    ACall ⟨Try.prog, w0⟩ 6 [.agg #[.string nm, pv, .int .i64 dead], .int .i64 on, .int .i64 left, lv, .int .i64 now] K n H := by
  have hpc := (hp H).cells
  have hsc := (hs H).cells
  have ff : ∀ i, False → i < n + 2 := fun _ h => h.elim
  refine ACall.code Try.func6 rfl Try.ntmps6 Try.results6 (by simp) fun J0 => ?_
  refine AW.ev ?_
  simp (disch := omega) [-hset_if, -Bool.decide_and, hset_ne, hpc, hsc]
  refine awake_p ?_
  simp (disch := omega) [-hset_if, -Bool.decide_and, hset_ne, hpc, hsc]
  refine fits_ok (hp _) (rows := [⟨lv, ls⟩]) (D := (· = n + 1)) (OwR.lit (C := ⟨Try.prog, w0⟩) (n := n + 2) (j := n + 1) (sz := 1) (T := 60) (f := IRow.cells) (xs := [⟨lv, ls⟩]) (l := 1) (by omega) (by simp) (by omega) (hset_same _ _ _) rfl rfl).sl (fun x hx => by simp at hx; subst hx; exact (hs _).mono (fun _ h => h.elim)) (fun i hi => by omega) (fun _ h => h.elim) ?_
  simp (disch := omega) [-hset_if, -Bool.decide_and, hset_ne, hpc, hsc]
  refine gif_var (fun c1 => ?_) (fun c1 => ?_)
  · simp at c1
    simp (disch := omega) [-hset_if, -Bool.decide_and, hset_ne]
    refine Fin_id (hk _ _)
  simp at c1
  have hc1 : ls.length = ps.length ∧ ps.length ≤ 20 ∧ 0 ≤ dead ∧ dead ≤ 3600 ∧ 0 ≤ now ∧ now ≤ 1000000 := by
    simp [fitsB, rowB] at c1; omega
  simp (disch := omega) [-hset_if, -Bool.decide_and, hset_ne, hpc, hsc]
  refine cif_dec (fun c2 => ?_) (fun c2 => ?_)
  · simp (disch := omega) [-hset_if, -Bool.decide_and, hset_ne]
    refine Fin_id (hk _ _)
  simp (disch := omega) [-hset_if, -Bool.decide_and, hset_ne, hpc, hsc]
  refine ask_p (ls := ls) (hs _) (fun _ h => h.elim) (by omega) ?_
  intro av m1 G1 hM
  obtain ⟨u1, u2, u3, F1, u4, u5⟩ := hM.own (C := ⟨Try.prog, w0⟩) (by omega) (by simp [Req.cells])
  clear hM
  have u6 := u5.sl.cells
  have g4 : G1 n = .cells [.string nm, pv, .int .i64 dead] 24 1 := by rw [u3 n (by omega)]; simp (disch := omega) [-hset_if, -Bool.decide_and, hset_ne]
  have g5 : G1 (n + 2) = .cells [.int .i64 on, .int .i64 left] 29 1 := by rw [u3 (n + 2) (by omega)]; simp (disch := omega) [-hset_if, -Bool.decide_and, hset_ne]
  have hlen : (ls.map askR).length < 9223372036854775807 := by simp; omega
  have lt1 : ∀ i, F1 i → i < m1 := fun i hi => (u4 i hi).2
  have lt2 : ∀ i, F1 i → n + 2 < i := fun i hi => by have := (u4 i hi).1; omega
  generalize ls.map askR = rs at u5 hlen
  clear u4
  simp (disch := omega) [-hset_if, -Bool.decide_and, hset_ne, g4, g5, hpc, u6]
  refine Winner_p (hp _) u5.sl lt1 (fun _ h => h.elim) hlen ?_
  by_cases hf : formedB ps.length dead on left rs = true
  · rw [winnerR_1 hf]
    simp (disch := omega) [-hset_if, -Bool.decide_and, hset_ne, g4, g5, hpc, u6]
    refine Waiting_p (hp _) u5.sl lt1 (fun _ h => h.elim) hlen ?_
    unfold waitR
    by_cases ht : timelyE ps.length dead on left rs now = 0
    · have ht' := timelyE_iff.1 ht
      rw [if_pos ht]
      by_cases hw : win on rs < 0 ∨ win on rs = on
      · rw [if_pos hw]
        have hr := @win_range rs on (by have := formedB_iff.1 hf; omega)
        simp (disch := omega) [-hset_if, -Bool.decide_and, hset_ne]
        repeat' (first | (with_reducible intro _; first | (exfalso; omega) | (simp (disch := omega) [-hset_if, -Bool.decide_and, hset_ne]) | skip) | with_reducible apply cif_dec | with_reducible apply cif_beq | with_reducible apply cif_bne | with_reducible apply cif_var | with_reducible apply gif_dec | with_reducible apply gif_ndec | with_reducible apply gif_beq | with_reducible apply gif_bne | with_reducible apply gif_nbeq | with_reducible apply gif_var)
        all_goals (refine fin_true hk ?_)
        all_goals grind
      · rw [if_neg hw]
        have hr := @win_range rs on (by have := formedB_iff.1 hf; omega)
        have he := @endT_le dead on left now ht'.2.2.2 (by omega)
        have e1 : (if 0 ≤ on then Value.tuple #[.int .i64 (win on rs), .int .i64 (now + mxI 1 dead), .int .i64 0] else .tuple #[.int .i64 (win on rs), .int .i64 (mxI now (left + dead)), .int .i64 0]) = .tuple #[.int .i64 (win on rs), .int .i64 (endT dead on left now), .int .i64 0] := by
          unfold endT; split <;> rfl
        rw [e1]
        obtain ⟨W, hW⟩ : ∃ W, W = win on rs := ⟨_, rfl⟩
        obtain ⟨T, hT⟩ : ∃ T, T = endT dead on left now := ⟨_, rfl⟩
        rw [← hT] at he
        rw [← hW] at hr hw
        rw [← hT, ← hW]
        simp (disch := omega) [-hset_if, -Bool.decide_and, hset_ne, g4, hpc]
        refine gif_dec (fun d1 => ?_) (fun d1 => ?_)
        · omega
        simp (disch := omega) [-hset_if, -Bool.decide_and, hset_ne, g4, hpc]
        refine cif_dec (fun d2 => ?_) (fun d2 => ?_)
        · omega
        simp (disch := omega) [-hset_if, -Bool.decide_and, hset_ne, g4, hpc]
        refine AW.while (σ := WS) (fun s => (T + 1 - now).toNat - s.t) (fun s => [(5, .pointer (some ⟨new n, 0, none⟩)), (11, .pointer (some ⟨new (n + 2), 0, none⟩)), (12, av), (13, .int .i64 W), (16, .int .i64 T), (18, .int .i64 (now + s.t))])
          (fun s n1 H1 => m1 ≤ n1 ∧ (∀ i, i < m1 → i ≠ n + 2 → H1 i = G1 i) ∧ H1 (n + 2) = .cells s.s.cells 29 1 ∧ WInv dead on left now (now + s.t) s.s) ⟨0, ⟨on, left⟩⟩ ?_ ?_ ?_
        · simp (disch := omega) [-hset_if, -Bool.decide_and, hset_ne]
        · exact ⟨by omega, fun _ _ _ => rfl, by simp (disch := omega) [-hset_if, -Bool.decide_and, hset_ne, g5], by simpa using (show WInv dead on left now now ⟨on, left⟩ from ⟨by omega, by omega, .inl ⟨rfl, rfl⟩⟩)⟩
        rintro ⟨k, s⟩ n1 H1 ⟨q1, q2, q3, q4⟩
        dsimp only at q1 q2 q3 q4 ⊢
        have q5 : H1 n = .cells [.string nm, pv, .int .i64 dead] 24 1 := by rw [q2 n (by omega) (by omega)]; exact g4
        have q6 : SlR ⟨Try.prog, w0⟩ H1 F1 3 Req.cells av rs := u5.sl.frame (fun i hi => q2 i (lt1 i hi) (by have := lt2 i hi; omega))
        simp (disch := omega) [-hset_if, -Bool.decide_and, hset_ne]
        refine cif_dec (fun d3 => ?_) (fun d3 => ?_)
        · obtain ⟨s1, s2, s3, s4, s5⟩ := waits_step hf (by omega) (by omega) ht'.2.2.2 (by omega) hW.symm (by omega) (fun h => hw (.inr h)) q4 (by omega)
          simp (disch := omega) [-hset_if, -Bool.decide_and, hset_ne, q5, q3, hpc, u6]
          refine Step_p (on := s.on) (left := s.left) (hp _) q6 (fun i hi => by have := lt1 i hi; omega) (fun _ h => h.elim) hlen ?_
          rw [stepR, if_pos s1, stepS_next]
          generalize nextS dead ⟨s.on, s.left⟩ rs (now + k) = t at s2 s3 s4 s5 ⊢
          have q7 : ∀ o, SlR ⟨Try.prog, w0⟩ (hset n1 o H1) F1 3 Req.cells av rs := fun o => q6.frame (fun i hi => by have := lt1 i hi; simp (disch := omega) [-hset_if, -Bool.decide_and, hset_ne])
          simp (disch := omega) [-hset_if, -Bool.decide_and, hset_ne, q5, q3, hpc, u6]
          refine Winner_p (on := t.on) (left := t.left) (hp _) (q7 _) (fun i hi => by have := lt1 i hi; omega) (fun _ h => h.elim) hlen ?_
          rw [winnerR_1 s2, s3]
          have s6 : (t.on == W) = (now + (k : Int) == T) := by rw [Bool.eq_iff_iff]; simp; rw [s4, hT]
          simp (disch := omega) [-hset_if, -Bool.decide_and, hset_ne, q5, q3, hpc, u6, s6]
          refine Next.mk ⟨k + 1, t⟩ (by simp only; omega) (by simp (disch := omega) [-hset_if, -Bool.decide_and, hset_ne]; omega) ⟨by first | omega | (simp only; omega), fun i h1 h2 => ?_, ?_, ?_⟩
          · simp (disch := omega) [-hset_if, -Bool.decide_and, hset_ne, q2]
          · simp (disch := omega) [-hset_if, -Bool.decide_and, hset_ne]
          · have : now + ((k + 1 : Nat) : Int) = now + k + 1 := by omega
            simp only
            rw [this]; exact s5
        · simp (disch := omega) [-hset_if, -Bool.decide_and, hset_ne]
          refine Fin_id (hk _ _)
    · rw [if_neg ht]
      have e1 : timelyE ps.length dead on left rs now = 6 ∧ now < left := by
        unfold timelyE at ht ⊢
        grind
      rw [e1.1]
      simp (disch := omega) [-hset_if, -Bool.decide_and, hset_ne]
      refine Fin_id ?_
      rw [decide_eq_true e1.2]
      exact hk _ _
  · rw [winnerR_0 hf]
    simp (disch := omega) [-hset_if, -Bool.decide_and, hset_ne, g4, g5, hpc, u6]
    refine Waiting_p (hp _) u5.sl lt1 (fun _ h => h.elim) hlen ?_
    have e1 : timelyE ps.length dead on left rs now = 1 := by rw [timelyE, if_neg hf]
    have e2 : waitR ps.length dead on left rs now = .tuple #[.int .i64 0, .int .i64 0, .int .i64 1] := by rw [waitR, if_neg (by omega), e1]
    rw [e2]
    simp (disch := omega) [-hset_if, -Bool.decide_and, hset_ne]
    refine Fin_id (hk _ _)
end Go.Aw.S15
