/-
  Chapter 15, the reference: Line, Same.
-/
import Derived.Test.YtmgadjflgiokeaaS15bb
namespace Go.Aw.S15
open Go.RowKit Go.Proofs Go.Aw.Tab
set_option linter.unusedSimpArgs false
set_option linter.unusedVariables false
set_option maxRecDepth 10000
set_option maxHeartbeats 2000000
set_option pp.deepTerms false
set_option pp.deepTerms.threshold 4
set_option pp.maxSteps 1500
attribute [local simp] Tok.cells range_get
variable {w0 : World} {n : Nat} {H : Heap} {K : Value → Nat → Heap → Prop} {s : ByteArray}
variable {pv qv : Value} {ps qs : List ByteArray} {nm nm2 : ByteArray} {dd dd2 : Int} {D E : Nat → Prop} {ts : List Tok} {lat : Int} {hd : Bool} {kn : Nat}
theorem clamp_in (h : 0 ≤ dd ∧ dd ≤ 3600) : clampP dd = 1000 * dd := by unfold clampP mnI mxI; split <;> split <;> omega
theorem clamp_out (h : dd < 0 ∨ 3600 < dd) : numB (clampP dd) = false := by
  rw [numB_iff]
  unfold clampP mnI mxI; split <;> split <;> omega
theorem errL_code {e i : Int} : (errL ts lat e i).code = e := rfl
theorem line_out (h : dd < 0 ∨ 3600 < dd) : (loadP (lineT nm dd ps) lat hd kn).code ≠ 0 := by
  rw [loadP_rl (Nat.le_refl _)]
  obtain ⟨m, hm⟩ : ∃ m, (lineT nm dd ps).length + 7 = m + 5 := ⟨(lineT nm dd ps).length + 2, by omega⟩
  rw [hm, rl_word (.inl rfl), Nat.zero_add, rl_name]
  split
  · split
    · split
      · rw [rl_word (.inr (.inl rfl))]
        split
        · rw [rl_num]
          have e3 : at_ (lineT nm dd ps) 3 = ⟨2, ⟨#[]⟩, clampP dd, 0⟩ := rfl
          rw [e3]
          split
          · rw [if_neg (by simp [clamp_out h])]; simp [errL_code]
          · simp [errL_code]
        · simp [errL_code]
      · simp [errL_code]
    · simp [errL_code]
  · simp [errL_code]
theorem rl_ok {nm : ByteArray} {dd : Int} : ∀ (m i : Nat) (acc : List ByteArray), 5 ≤ i → ts.length + 2 ≤ m + i → (rl ts lat hd kn m i nm dd acc).code = 0 → rl ts lat hd kn m i nm dd acc = ⟨nm, acc ++ (ts.drop i).map (·.text), dd, 0, 0, 0⟩
  | 0, i, acc, h1, h2, h => by
    rw [rl] at h ⊢
    unfold finL at h ⊢
    rw [List.drop_of_length_le (by omega)]
    split at h
    · simp [errL_code] at h
    · split at h
      · simp [errL_code] at h
      · rename_i h5 h6; rw [if_neg h5, if_neg h6]; simp
  | m + 1, i, acc, h1, h2, h => by
    have ih := fun acc => rl_ok (nm := nm) (dd := dd) m (i + 1) acc (by omega) (by omega)
    have hw : wantS i = e0 := by unfold wantS; rw [if_neg (by omega), if_neg (by omega), if_neg (by omega)]
    rw [rl] at h ⊢
    split at h
    · rename_i h3
      rw [if_pos h3]
      unfold finL at h ⊢
      rw [List.drop_of_length_le h3.1]
      split at h
      · simp [errL_code] at h
      · split at h
        · simp [errL_code] at h
        · rename_i h5 h6; rw [if_neg h5, if_neg h6]; simp
    · rename_i h3
      rw [if_neg h3]
      split at h
      · simp [errL_code] at h
      · rename_i h4
        rw [if_neg h4]
        rw [if_neg (by omega)] at h ⊢
        split at h
        · simp [errL_code] at h
        · rename_i h5
          rw [if_neg h5]
          rw [if_neg (by simp [hw])] at h ⊢
          split at h
          · simp [errL_code] at h
          · rename_i h6
            rw [if_neg h6]
            rw [if_neg (by omega)] at h ⊢
            split at h
            · simp [errL_code] at h
            · rename_i h7
              rw [if_neg h7]
              split at h
              · simp [errL_code] at h
              · rename_i h8
                rw [if_neg h8, ih _ h, drop_at (l := ts) (j := i) (by omega)]
                simp
theorem line_ok (h : (loadP (lineT nm dd ps) lat hd kn).code = 0) : loadP (lineT nm dd ps) lat hd kn = ⟨nm, ps, dd, 0, 0, 0⟩ := by
  have hd0 : 0 ≤ dd ∧ dd ≤ 3600 := Decidable.byContradiction fun hc => line_out (by omega) h
  rw [loadP_rl (Nat.le_refl _)] at h ⊢
  obtain ⟨m, hm⟩ : ∃ m, (lineT nm dd ps).length + 7 = m + 5 := ⟨(lineT nm dd ps).length + 2, by omega⟩
  rw [hm, rl_word (.inl rfl), Nat.zero_add, rl_name] at h ⊢
  have e1 : at_ (lineT nm dd ps) 1 = wordT nm := rfl
  have e3 : at_ (lineT nm dd ps) 3 = ⟨2, ⟨#[]⟩, clampP dd, 0⟩ := rfl
  rw [e1] at h ⊢
  split at h
  · rename_i h1
    rw [if_pos h1]
    split at h
    · rename_i h2
      rw [if_pos h2]
      split at h
      · rename_i h3
        rw [if_pos h3]
        rw [rl_word (.inr (.inl rfl))] at h ⊢
        split at h
        · rename_i h4
          rw [if_pos h4]
          rw [rl_num, e3] at h ⊢
          split at h
          · rename_i h5
            rw [if_pos h5]
            split at h
            · rename_i h6
              rw [if_pos h6]
              rw [rl_word (.inr (.inr rfl))] at h ⊢
              split at h
              · rename_i h7
                rw [if_pos h7]
                rw [rl_ok _ _ _ (by omega) (by omega) h]
                have e5 : (lineT nm dd ps).drop (4 + 1) = ps.map wordT := rfl
                rw [e5, clamp_in hd0]
                congr 1
                · rw [List.nil_append, List.map_map]; exact List.map_id ps
                · show (1000 * dd).tdiv 1000 = dd
                  rw [Int.tdiv_eq_ediv_of_nonneg (by omega)]; omega
              · simp [errL_code] at h
            · simp [errL_code] at h
          · simp [errL_code] at h
        · simp [errL_code] at h
      · simp [errL_code] at h
    · simp [errL_code] at h
  · simp [errL_code] at h
def sameB (nm : ByteArray) (dd : Int) (ps : List ByteArray) (nm2 : ByteArray) (dd2 : Int) (qs : List ByteArray) : Bool := decide (nm = nm2 ∧ dd = dd2 ∧ ps = qs)
theorem sameB_no (h : ps ≠ qs) : sameB nm dd ps nm2 dd2 qs = false := decide_eq_false fun hc => h hc.2.2
theorem at_ext {α : Type} [Inhabited α] {l r : List α} (h : l.length = r.length) (he : ∀ k : Nat, k < l.length → at_ l (k : Int) = at_ r (k : Int)) : l = r :=
  List.ext_getElem h fun k h1 h2 => by rw [← at_nat h1, ← at_nat h2]; exact he k h1
theorem Same_p (hp : SlR ⟨Try.prog, w0⟩ H D 1 strC pv ps) (hq : SlR ⟨Try.prog, w0⟩ H E 1 strC qv qs) (hD : ∀ i, D i → i < n) (hE : ∀ i, E i → i < n) (hb : ps.length < 9223372036854775807) (hk : K (.bool (sameB nm dd ps nm2 dd2 qs)) n H) :
    ACall ⟨Try.prog, w0⟩ 21 [.agg #[.string nm, pv, .int .i64 dd], .agg #[.string nm2, qv, .int .i64 dd2]] K n H := by
  have hpc := hp.cells
  have hqc := hq.cells
  refine ACall.go Try.func21 rfl Try.ntmps21 Try.results21 (by simp) fun hU hu J0 => ?_
  have hp0 : ∀ a b, SlR ⟨Try.prog, w0⟩ (hset (n + 1) a (hset n b H)) D 1 strC pv ps := fun a b => hp.frame (fun i hi => by have := hD i hi; simp (disch := omega) [-hset_if, -Bool.decide_and, hset_ne])
  have hq0 : ∀ a b, SlR ⟨Try.prog, w0⟩ (hset (n + 1) a (hset n b H)) E 1 strC qv qs := fun a b => hq.frame (fun i hi => by have := hE i hi; simp (disch := omega) [-hset_if, -Bool.decide_and, hset_ne])
  simp (disch := omega) [-hset_if, -Bool.decide_and, hset_ne, hpc, hqc, hp.lenK, hq.lenK]
  repeat' (first | (with_reducible intro _; first | (exfalso; omega) | (simp (disch := omega) [-hset_if, -Bool.decide_and, hset_ne, hpc, hqc, hp.lenK, hq.lenK]) | skip) | with_reducible apply cif_dec | with_reducible apply cif_beq | with_reducible apply cif_bne | with_reducible apply cif_var | with_reducible apply gif_dec | with_reducible apply gif_ndec | with_reducible apply gif_beq | with_reducible apply gif_bne | with_reducible apply gif_nbeq | with_reducible apply gif_var)
  all_goals try (refine Fin.ret hU hk (by simp) ?_ (by omega) (fun i hi => by simp (disch := omega) only [hset_ne]); first | (unfold sameB; grind; done) | (rw [sameB_no (fun e => by have := congrArg List.length e; omega)]))
  rename_i h1 h2 h3
  refine AW.while (σ := Nat) (fun j => ps.length - j) (fun j => [(2, .pointer (some ⟨new n, 0, none⟩)), (3, .pointer (some ⟨new (n + 1), 0, none⟩)), (5, .int .i64 j)])
    (fun j n1 H1 => n1 = n + 2 ∧ H1 = hset (n + 1) (.cells [.string nm2, qv, .int .i64 dd2] 24 1) (hset n (.cells [.string nm, pv, .int .i64 dd] 24 1) H) ∧ j ≤ ps.length ∧ ∀ k : Nat, k < j → at_ ps (k : Int) = at_ qs (k : Int)) 0 ?_ ?_ ?_
  · simp (disch := omega) [-hset_if, -Bool.decide_and, hset_ne]
  · exact ⟨rfl, rfl, by omega, fun k hk => by omega⟩
  rintro j n1 H1 ⟨rfl, rfl, g1, g2⟩
  simp (disch := omega) [-hset_if, -Bool.decide_and, hset_ne, hp.lenK]
  refine cif_dec (fun h => ?_) (fun h => ?_)
  · simp (disch := omega) [-hset_if, -Bool.decide_and, hset_ne]
    refine AW.draw (X := ⟨_, 45, _, _⟩) (id := 6) mixed (.take 0 <| .take 1 <| .take 2 <| .take 3 <| .take 4 <| .take 5 <| .take 6 <| .take 7 <| .take 8 <| .take 9 <| .take 10 <| .done) (by kernel_rfl) ?_
    simp (disch := omega) [-hset_if, -Bool.decide_and, hset_ne, hp.ix elemS22, (hp0 _ _).load0 shp9, hq.ix elemS22, (hq0 _ _).load0 shp9, strC]
    refine cif_dec (fun h4 => ?_) (fun h4 => ?_)
    · simp (disch := omega) [-hset_if, -Bool.decide_and, hset_ne]
      refine Next.mk (j + 1) (by first | omega | (dsimp only; omega)) (by simp (disch := omega) [-hset_if, -Bool.decide_and, hset_ne]) ⟨rfl, rfl, by omega, fun k hk => ?_⟩
      by_cases e : k < j
      · exact g2 k e
      · obtain rfl : k = j := by omega
        exact h4
    · simp (disch := omega) [-hset_if, -Bool.decide_and, hset_ne]
      refine Fin.ret hU hk (by simp) ?_ (by omega) (fun i hi => by simp (disch := omega) only [hset_ne])
      rw [sameB_no (fun e => h4 (by rw [e]))]
  · simp (disch := omega) [-hset_if, -Bool.decide_and, hset_ne]
    refine Fin.ret hU hk (by simp) ?_ (by omega) (fun i hi => by simp (disch := omega) only [hset_ne])
    have e : ps = qs := at_ext (by omega) (fun k hk => g2 k (by omega))
    unfold sameB
    grind
theorem LineR_ok (hp : SlR ⟨Try.prog, w0⟩ H D 1 strC pv ps) (hD : ∀ i, D i → i < n) (hb : ps.length ≤ 1000)
    (hk : ∀ n' H' v E, n ≤ n' → (∀ i, i < n → H' i = H i) → (∀ i, E i → n ≤ i) → OwR ⟨Try.prog, w0⟩ H' n' E 49 4 Tok.cells v (lineP nm dd ps) → K (.tuple #[.agg #[v, .bool false, .slice none 0 0, .int .i64 0], .int .i64 (lineE nm dd ps)]) n' H') :
    ACall ⟨Try.prog, w0⟩ 23 [.agg #[.string nm, pv, .int .i64 dd]] K n H := by
  have hpc := hp.cells
  refine ACall.code Try.func23 rfl Try.ntmps23 Try.results23 (by simp) fun J0 => ?_
  refine AW.step ?_
  simp (disch := omega) [-hset_if, -Bool.decide_and, hset_ne, hpc]
  refine AW.cut (σ := Unit) (fun _ => [(1, .pointer (some ⟨new n, 0, none⟩)), (2, .pointer (some ⟨new (n + 1), 0, none⟩))]) (fun _ n' H' => n' = n + 2 ∧ H' = hset (n + 1) (.cells [.slice none 0 0, .bool false, .slice none 0 0, .int .i64 0] 47 1) (hset n (.cells [.string nm, pv, .int .i64 dd] 24 1) H) ∧ 0 ≤ dd ∧ dd ≤ 3600) ?_ ?_
  rotate_left
  · have out : dd < 0 ∨ 3600 < dd → Fin n K (.tuple #[.agg #[.slice none 0 0, .bool false, .slice none 0 0, .int .i64 0], .int .i64 1]) (n + 2) (hset (n + 1) (.cells [.slice none 0 0, .bool false, .slice none 0 0, .int .i64 0] 47 1) (hset n (.cells [.string nm, pv, .int .i64 dd] 24 1) H)) := fun h => by
      rw [lineE, lineP, if_neg (line_out h), if_neg (line_out h)] at hk
      exact Fin_id (hk _ _ _ _ (by omega) (fun i hi => by simp (disch := omega) only [hset_ne]) (fun _ h => h.elim) (OwR.nil (by omega)))
    simp (disch := omega) [-hset_if, -Bool.decide_and, hset_ne]
    refine gif_dec (fun h1 => ?_) (fun h1 => ?_)
    · simp (disch := omega) [-hset_if, -Bool.decide_and, hset_ne]
      exact out (.inl h1)
    · simp (disch := omega) [-hset_if, -Bool.decide_and, hset_ne]
      refine cif_dec (fun h2 => ?_) (fun h2 => ?_)
      · simp (disch := omega) [-hset_if, -Bool.decide_and, hset_ne]
        exact out (.inr h2)
      · simp (disch := omega) [-hset_if, -Bool.decide_and, hset_ne]
        exact Join.mk () (by simp (disch := omega) [-hset_if, -Bool.decide_and, hset_ne]) ⟨rfl, rfl, by omega, by omega⟩
  rintro _ n0 H0 ⟨rfl, rfl, d0, d1⟩
  have hcl := clamp_in ⟨d0, d1⟩
  refine AW.cut (σ := Nat × Nat) (fun s => [(1, .pointer (some ⟨new n, 0, none⟩)), (2, .pointer (some ⟨new (n + 1), 0, none⟩)), (4, .pointer (some ⟨new s.1, 0, none⟩))])
    (fun s n' H' => n + 4 ≤ n' ∧ (∀ i, i < n → H' i = H i) ∧ H' n = .cells [.string nm, pv, .int .i64 dd] 24 1 ∧ H' (n + 1) = .cells [.slice none 0 0, .bool false, .slice none 0 0, .int .i64 0] 47 1 ∧
      H' s.1 = .cells [.slice (some ⟨new s.2, 0, none⟩) 5 5, .bool false, .slice none 0 0, .int .i64 0] 47 1 ∧ H' s.2 = .cells ((headT nm (clampP dd)).flatMap Tok.cells) 49 4 ∧ n + 2 ≤ s.1 ∧ n + 2 ≤ s.2 ∧ s.1 ≠ s.2 ∧ s.1 < n' ∧ s.2 < n') ?_ ?_
  rotate_left
  · refine AW.draw (X := ⟨_, 57, _, _⟩) (id := 3) mixed (.take 1 <| .take 2 <| .take 5 <| .take 6 <| .take 7 <| .take 8 <| .each 0 [1, 2, 5, 6, 7, 8] (.each 3 [5, 6, 7, 8] (.each 4 [5, 6, 7, 8] (.each 9 [5, 6, 7, 8] (.each 10 [] (.take 11 <| .each 12 [11] (.each 13 [] (.done) <| .stop) <| .stop) <| .each 12 [5, 6, 7, 8] (.each 10 [] (.take 11 <| .each 13 [] (.done) <| .stop) <| .stop) <| .stop) <| .each 12 [5, 6, 7, 8] (.each 9 [5, 6, 7, 8] (.each 10 [] (.take 11 <| .each 13 [] (.done) <| .stop) <| .stop) <| .stop) <| .stop) <| .each 12 [5, 6, 7, 8] (.each 4 [5, 6, 7, 8] (.each 9 [5, 6, 7, 8] (.each 10 [] (.take 11 <| .each 13 [] (.done) <| .stop) <| .stop) <| .stop) <| .stop) <| .stop) <| .each 12 [1, 2, 5, 6, 7, 8] (.each 3 [5, 6, 7, 8] (.each 4 [5, 6, 7, 8] (.each 9 [5, 6, 7, 8] (.each 10 [] (.take 11 <| .each 13 [] (.done) <| .stop) <| .stop) <| .stop) <| .stop) <| .stop) <| .stop) <| .each 12 [1, 2, 5, 6, 7, 8] (.each 0 [1, 2, 5, 6, 7, 8] (.each 3 [5, 6, 7, 8] (.each 4 [5, 6, 7, 8] (.each 9 [5, 6, 7, 8] (.each 10 [] (.take 11 <| .each 13 [] (.done) <| .stop) <| .stop) <| .stop) <| .stop) <| .stop) <| .stop) <| .stop) (by kernel_rfl) ?_
    simp (disch := omega) [-hset_if, -Bool.decide_and, hset_ne]
    repeat (any_goals (first | refine wordR_ok ?_ | refine And.intro ?_ ?_); any_goals simp (disch := omega) [-hset_if, -Bool.decide_and, hset_ne])
    repeat' with_reducible apply And.intro
    all_goals first | refine Join.mk (n + 2, n + 3) ⟨rfl, rfl, rfl, trivial⟩ ?_ | refine Join.mk (n + 3, n + 2) ⟨rfl, rfl, rfl, trivial⟩ ?_
    all_goals refine ⟨?_, ?_, ?_, ?_, ?_, ?_, ?_, ?_, ?_, ?_, ?_⟩
    all_goals first | omega | (dsimp only; omega) | (intro i hi; simp (disch := omega) [-hset_if, -Bool.decide_and, hset_ne]) | simp (disch := omega) [-hset_if, -Bool.decide_and, hset_ne, headT, wordT, hcl]
  rintro ⟨c, d⟩ n1 H1 ⟨q1, q2, q3, q4, q5, q6, q7, q8, q9, q10, q11⟩
  dsimp only at q5 q6 q7 q8 q9 q10 q11
  have hp1 : SlR ⟨Try.prog, w0⟩ H1 D 1 strC pv ps := hp.frame (fun i hi => q2 i (hD i hi))
  refine AW.cut (σ := LS) (fun s => [(2, .pointer (some ⟨new (n + 1), 0, none⟩)), (4, .pointer (some ⟨new c, 0, none⟩))])
    (fun s n' H' => n1 ≤ n' ∧ (∀ i, i < n1 → i ≠ c → i ≠ d → H' i = H1 i) ∧ H' c = .cells [s.v, .bool false, .slice none 0 0, .int .i64 0] 47 1 ∧ OwR ⟨Try.prog, w0⟩ H' n' s.E 49 4 Tok.cells s.v (lineT nm dd ps) ∧ (∀ i, s.E i → i = d ∨ n1 ≤ i)) ?_ ?_
  rotate_left
  · simp (disch := omega) [-hset_if, -Bool.decide_and, hset_ne, q3, hp1.lenK]
    refine AW.while (σ := LS) (fun s => ps.length - s.j) (fun s => [(1, .pointer (some ⟨new n, 0, none⟩)), (2, .pointer (some ⟨new (n + 1), 0, none⟩)), (4, .pointer (some ⟨new c, 0, none⟩)), (5, .int .i64 s.j)])
      (fun s n' H' => s.j ≤ ps.length ∧ n1 ≤ n' ∧ (∀ i, i < n1 → i ≠ c → i ≠ d → H' i = H1 i) ∧ H' c = .cells [s.v, .bool false, .slice none 0 0, .int .i64 0] 47 1 ∧ OwR ⟨Try.prog, w0⟩ H' n' s.E 49 4 Tok.cells s.v (headT nm (clampP dd) ++ (ps.take s.j).map wordT) ∧ (∀ i, s.E i → i = d ∨ n1 ≤ i))
      ⟨0, .slice (some ⟨new d, 0, none⟩) 5 5, (· = d)⟩ ?_ ?_ ?_
    · simp (disch := omega) [-hset_if, -Bool.decide_and, hset_ne]
    · refine ⟨by simp, by omega, fun _ _ _ _ => rfl, q5, ?_, fun i hi => .inl hi⟩
      exact OwR.lit (by omega) (by simp [headT]) q11 q6 (by simp) (by simp [headT])
    rintro ⟨j, v, E⟩ n2 H2 ⟨g1, g2, g3, g4, g5, g6⟩
    dsimp only at g1 g2 g3 g4 g5 g6
    have hp2 : SlR ⟨Try.prog, w0⟩ H2 D 1 strC pv ps := hp1.frame (fun i hi => g3 i (by have := hD i hi; omega) (by have := hD i hi; omega) (by have := hD i hi; omega))
    have q3' : H2 n = .cells [.string nm, pv, .int .i64 dd] 24 1 := by rw [g3 n (by omega) (by omega) (by omega)]; exact q3
    simp (disch := omega) [-hset_if, -Bool.decide_and, hset_ne, q3', hp2.lenK]
    refine cif_dec (fun h => ?_) (fun h => ?_)
    · simp (disch := omega) [-hset_if, -Bool.decide_and, hset_ne]
      refine AW.draw (X := ⟨_, 57, _, _⟩) (id := 7) mixed (.take 0 <| .take 1 <| .take 2 <| .take 3 <| .take 4 <| .take 5 <| .take 6 <| .each 7 [0, 1] (.each 8 [0, 1] (.each 9 [] (.take 10 <| .each 11 [] (.done) <| .stop) <| .stop) <| .stop) <| .stop) (by kernel_rfl) ?_
      simp (disch := omega) [-hset_if, -Bool.decide_and, hset_ne, g4, q3', hp2.ix elemS22, hp2.load0 shp9, strC]
      refine wordR_ok ?_
      simp (disch := omega) [-hset_if, -Bool.decide_and, hset_ne, g4, q3', hp2.ix elemS22, hp2.load0 shp9, strC]
      refine g5.push elemS44 zero49 rfl (wordT (at_ ps (j : Int))) rfl rfl rfl (by simp [headT]; omega) (by simp [headT]; omega) ?_
      intro v2 n3 H3 D2 p1 p2 p3 p4 p5
      have nE : ∀ i, i < n1 → i ≠ d → ¬ E i := fun i h1 h2 h => by have := g6 i h; omega
      have hD2 : ∀ i, D2 i → i = d ∨ n1 ≤ i := fun i hi => by
        rcases p4 i hi with h | h
        · exact g6 i h
        · omega
      have hc := p3 c (by omega) (nE c (by omega) (by omega))
      rw [g4] at hc
      simp (disch := omega) [-hset_if, -Bool.decide_and, hset_ne, hc, p5.sl.cells, p5.sl.one]
      refine Next.mk ⟨j + 1, v2, D2⟩ (by first | omega | (dsimp only; omega)) (by simp (disch := omega) [-hset_if, -Bool.decide_and, hset_ne]) ?_
      refine ⟨(by first | omega | (dsimp only; omega)), by omega, fun i h1 h2 h3 => ?_, by simp (disch := omega) [-hset_if, -Bool.decide_and, hset_ne], ?_, hD2⟩
      · rw [hset_ne h2, p3 i (by omega) (nE i h1 h3)]
        exact g3 i h1 h2 h3
      · refine OwR.frame (n := n3) (H := H3) ?_ (by omega) (fun i hi => hset_ne (by have := hD2 i hi; omega) _ _)
        rw [at_nat h] at p5
        have e : (ps.take (j + 1)).map wordT = (ps.take j).map wordT ++ [wordT ps[j]] := by rw [List.take_succ_eq_append_getElem h, List.map_append]; rfl
        rw [List.append_assoc, ← e] at p5
        first | exact p5 | (rw [List.map_take] at p5; exact p5)
    · simp (disch := omega) [-hset_if, -Bool.decide_and, hset_ne]
      refine Join.mk ⟨0, v, E⟩ (by simp (disch := omega) [-hset_if, -Bool.decide_and, hset_ne]) ⟨g2, g3, g4, ?_, g6⟩
      rw [List.take_of_length_le (by omega)] at g5
      exact g5
  rintro ⟨j, v, E⟩ n2 H2 ⟨g2, g3, g4, g5, g6⟩
  dsimp only at g2 g3 g4 g5 g6
  refine AW.ev ?_
  simp (disch := omega) [-hset_if, -Bool.decide_and, hset_ne, g4, g5.sl.cells, g5.sl.one]
  refine LoadR_ok (A := none) (kn := 0) (c := 0) g5.sl (fun i hi => g5.lt i hi) (by simp [lineT, headT]; omega) ?_
  intro n3 H3 u F x1 x2 x3 x4
  have hcc : H3 c = .cells [v, .bool false, .slice none 0 0, .int .i64 0] 47 1 := by rw [x2 c (by omega)]; exact g4
  have hz : H3 (n + 1) = .cells [.slice none 0 0, .bool false, .slice none 0 0, .int .i64 0] 47 1 := by rw [x2 _ (by omega), g3 _ (by omega) (by omega) (by omega)]; exact q4
  have hfr : ∀ i, i < n → H3 i = H i := fun i hi => by rw [x2 _ (by omega), g3 _ (by omega) (by omega) (by omega)]; exact q2 i hi
  simp (disch := omega) [-hset_if, -Bool.decide_and, hset_ne, loadV, x4.sl.cells, x4.sl.one]
  refine cif_bne (fun h => ?_) (fun h => ?_)
  · simp (disch := omega) [-hset_if, -Bool.decide_and, hset_ne, hcc, hz, g5.sl.cells, g5.sl.one]
    refine Fin_id ?_
    rw [lineE, lineP, if_pos h, if_pos h] at hk
    exact hk _ _ v E (by omega) (fun i hi => by simp (disch := omega) [-hset_if, -Bool.decide_and, hset_ne, hfr]) (fun i hi => by have := g6 i hi; omega) (g5.frame (by omega) (fun i hi => by have h1 := g5.lt i hi; have h2 := g6 i hi; simp (disch := omega) [-hset_if, -Bool.decide_and, hset_ne, x2]))
  · simp (disch := omega) [-hset_if, -Bool.decide_and, hset_ne, hcc, hz, g5.sl.cells, g5.sl.one]
    refine Fin_id ?_
    rw [lineE, lineP, if_neg h, if_neg h] at hk
    exact hk _ _ _ _ (by omega) (fun i hi => by simp (disch := omega) [-hset_if, -Bool.decide_and, hset_ne, hfr]) (fun _ h => h.elim) (OwR.nil (by omega))
end Go.Aw.S15
