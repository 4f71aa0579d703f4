/-
  Chapter 15: run.
-/
import Derived.Test.YtmgadjflgiokeaaS15s
import Derived.Test.YtmgadjflgiokeaaAw15
namespace Go.Aw.S15
open Go.RowKit Go.Proofs Go.Aw.Tab
set_option linter.unusedSimpArgs false
set_option linter.unusedVariables false
set_option maxRecDepth 10000
set_option maxHeartbeats 1000000
set_option pp.deepTerms false
set_option pp.deepTerms.threshold 4
set_option pp.maxSteps 1500
variable {w0 : World} {n : Nat} {H : Heap} {K : Value → Nat → Heap → Prop}
variable {pv ov av : Value} {nm : ByteArray} {ps : List ByteArray} {rs : List Req} {dead on left now : Int} {D E : Nat → Prop}
attribute [local simp] IRow.cells intC Sta.cells Req.cells
theorem awake_p (hk : K (.bool true) n H) : ACall ⟨Try.prog, w0⟩ 10 [] K n H := ACall.res (fun _ h => awake_ok h) (by simp) hk
theorem start_p (hk : K (.agg #[.int .i64 (-1), .int .i64 now]) n H) : ACall ⟨Try.prog, w0⟩ 18 [.int .i64 now] K n H := ACall.res (fun _ h => start_ok h) (und_agg (by simp)) hk
theorem Winner_p (hp : SlR ⟨Try.prog, w0⟩ H E 1 strC pv ps) (hs : SlR ⟨Try.prog, w0⟩ H D 3 Req.cells av rs) (hD : ∀ i, D i → i < n) (hE : ∀ i, E i → i < n) (hb : rs.length < 9223372036854775807) (hk : K (winnerR ps.length dead on left rs) n H) :
    ACall ⟨Try.prog, w0⟩ 12 [.agg #[.string nm, pv, .int .i64 dead], .agg #[.int .i64 on, .int .i64 left], av] K n H :=
  ACall.res (fun _ h => Winner_ok hp hs hD hE hb h) (by obtain ⟨a, e, h⟩ := @winnerR_tup rs dead on left ps.length; rw [h]; exact und_tuple (by simp)) hk
theorem Step_p (hp : SlR ⟨Try.prog, w0⟩ H E 1 strC pv ps) (hs : SlR ⟨Try.prog, w0⟩ H D 3 Req.cells av rs) (hD : ∀ i, D i → i < n) (hE : ∀ i, E i → i < n) (hb : rs.length < 9223372036854775807) (hk : K (stepR ps.length dead on left rs now) n H) :
    ACall ⟨Try.prog, w0⟩ 14 [.agg #[.string nm, pv, .int .i64 dead], .agg #[.int .i64 on, .int .i64 left], av, .int .i64 now] K n H :=
  ACall.res (fun _ h => Step_ok hp hs hD hE hb h) (by
    obtain ⟨x, y, e, h⟩ := @stepR_tup rs dead on left now ps.length
    rw [h]
    refine und_tuple ?_
    intro c hc
    simp at hc
    rcases hc with rfl | rfl
    · exact und_agg (by simp)
    · simp) hk
theorem Waiting_p (hp : SlR ⟨Try.prog, w0⟩ H E 1 strC pv ps) (hs : SlR ⟨Try.prog, w0⟩ H D 3 Req.cells av rs) (hD : ∀ i, D i → i < n) (hE : ∀ i, E i → i < n) (hb : rs.length < 9223372036854775807) (hk : K (waitR ps.length dead on left rs now) n H) :
    ACall ⟨Try.prog, w0⟩ 16 [.agg #[.string nm, pv, .int .i64 dead], .agg #[.int .i64 on, .int .i64 left], av, .int .i64 now] K n H :=
  ACall.res (fun _ h => Waiting_ok hp hs hD hE hb h) (by obtain ⟨x, y, e, h⟩ := @waitR_tup rs dead on left now ps.length; rw [h]; exact und_tuple (by simp)) hk
theorem Breaks_p {l : List Sta} (hp : SlR ⟨Try.prog, w0⟩ H E 1 strC pv ps) (hs : SlR ⟨Try.prog, w0⟩ H D 2 Sta.cells av l) (hD : ∀ i, D i → i < n) (hb : l.length < 1000000) (hk : K (.int .i64 (brk ps.length dead l 0 (-1) 0 false)) n H) :
    ACall ⟨Try.prog, w0⟩ 27 [.agg #[.string nm, pv, .int .i64 dead], av] K n H := ACall.res (fun _ h => breaks_ok hp hs hD hb h) (by simp) hk
theorem ask_p {lv : Value} {ls : List Int} (hs : SlR ⟨Try.prog, w0⟩ H D 1 intC lv ls) (hD : ∀ i, D i → i < n) (hb : ls.length ≤ 1000000) (hk : ∀ v n' H', Made n H 96 3 Req.cells (ls.map askR) v n' H' → K v n' H') : ACall ⟨Try.prog, w0⟩ 26 [lv] K n H :=
  ACall.made (fun x _ v hv => by simp [Req.cells] at hv; rcases hv with rfl | rfl | rfl <;> rfl) (ask_ok hs hD hb fun n' H' v E h1 h2 h3 h4 => ⟨h1, h2, E, h3, h4⟩) hk
/-- The state behind a step. -/
def nextS (dead : Int) (s : Sta) (rs : List Req) (now : Int) : Sta := if 0 ≤ s.on ∧ s.on ≠ win s.on rs then ⟨-1, now⟩ else if s.on < 0 ∧ 0 ≤ win s.on rs ∧ dead ≤ now - s.left then ⟨win s.on rs, s.left⟩ else s
theorem stepS_next : stepS dead on left rs now = .agg #[.int .i64 (nextS dead ⟨on, left⟩ rs now).on, .int .i64 (nextS dead ⟨on, left⟩ rs now).left] := by
  unfold stepS nextS
  split
  · rfl
  · split <;> rfl
/-- The states of a run. -/
def runS (np : Nat) (dead now : Int) : Sta → Nat → List (List Int) → Option (List Sta)
  | _, _, [] => some []
  | s, i, xs :: r => if timelyE np dead s.on s.left (xs.map askR) (now + i) = 0 then (runS np dead now (nextS dead s (xs.map askR) (now + i)) (i + 1) r).map (nextS dead s (xs.map askR) (now + i) :: ·) else none
structure RS where
  j : Nat
  s : Sta
  v : Value
  E : Nat → Prop
  acc : List Sta
theorem runG_ok {rows : List IRow} (hp : SlR ⟨Try.prog, w0⟩ H E 1 strC pv ps) (hs : SlR ⟨Try.prog, w0⟩ H D 1 IRow.cells ov rows) (hq : ∀ x ∈ rows, SlR ⟨Try.prog, w0⟩ H D 1 intC x.val x.xs) (hD : ∀ i, D i → i < n) (hE : ∀ i, E i → i < n)
    (hn0 : 0 ≤ now) (hn1 : now ≤ 1000000) (hl : rows.length ≤ 40) (hx : ∀ x ∈ rows, x.xs.length ≤ 1000000)
    (hk : ∀ n' H' v F, n ≤ n' → (∀ i, i < n → H' i = H i) → (∀ i, F i → n ≤ i) → (∀ l, runS ps.length dead now ⟨-1, now⟩ 0 (rows.map (·.xs)) = some l → OwR ⟨Try.prog, w0⟩ H' n' F 29 2 Sta.cells v l) → (runS ps.length dead now ⟨-1, now⟩ 0 (rows.map (·.xs)) = none → v = .slice none 0 0) →
      K (.tuple #[v, .bool (runS ps.length dead now ⟨-1, now⟩ 0 (rows.map (·.xs))).isSome]) n' H') :
    ACall ⟨Try.prog, w0⟩ 25 [.agg #[.string nm, pv, .int .i64 dead], .int .i64 now, ov] K n H := by
  have hpc := hp.cells
  have hsc := hs.cells
  obtain ⟨T, hT⟩ : ∃ T, T = runS ps.length dead now ⟨-1, now⟩ 0 (rows.map (·.xs)) := ⟨_, rfl⟩
  rw [← hT] at hk
  refine ACall.run Try.func25 rfl Try.ntmps25 Try.results25 (by simp) fun J0 => ?_
  simp (disch := omega) [-hset_if, -Bool.decide_and, hset_ne, hpc, hsc]
  refine start_p ?_
  simp (disch := omega) [-hset_if, -Bool.decide_and, hset_ne]
  refine AW.while (σ := RS) (fun s => rows.length - s.j) (fun s => [(1, .int .i64 now), (2, ov), (3, .pointer (some ⟨new n, 0, none⟩)), (8, .pointer (some ⟨new (n + 1), 0, none⟩)), (9, s.v), (10, .int .i64 s.j)])
    (fun s n1 H1 => s.j ≤ rows.length ∧ n + 2 ≤ n1 ∧ (∀ i, i < n → H1 i = H i) ∧ H1 n = .cells [.string nm, pv, .int .i64 dead] 24 1 ∧ H1 (n + 1) = .cells s.s.cells 29 1 ∧ OwR ⟨Try.prog, w0⟩ H1 n1 s.E 29 2 Sta.cells s.v s.acc ∧ (∀ i, s.E i → n + 2 ≤ i) ∧
      s.acc.length = s.j ∧ T = (runS ps.length dead now s.s s.j ((rows.drop s.j).map (·.xs))).map (s.acc ++ ·)) ⟨0, ⟨-1, now⟩, .slice (some ⟨new (n + 2), 0, none⟩) 0 0, (· = n + 2), []⟩ ?_ ?_ ?_
  · simp (disch := omega) [-hset_if, -Bool.decide_and, hset_ne]
  · exact ⟨by simp, by omega, (fun i hi => by simp (disch := omega) only [hset_ne]), by simp (disch := omega) [-hset_if, -Bool.decide_and, hset_ne], by simp (disch := omega) [-hset_if, -Bool.decide_and, hset_ne], OwR.empty (by omega) (by omega) (by simp (disch := omega) [-hset_if, -Bool.decide_and, hset_ne]), fun i hi => by omega, rfl, by rw [hT]; simp⟩
  clear hT
  rintro ⟨j, s, v, F, acc⟩ n1 H1 ⟨g1, g2, g3, g4, g5, g6, g7, g8, hT⟩
  dsimp only at g1 g2 g3 g4 g5 g6 g7 g8 hT ⊢
  have hp0 : SlR ⟨Try.prog, w0⟩ H1 E 1 strC pv ps := hp.frame (fun i hi => g3 i (hE i hi))
  have hs0 : SlR ⟨Try.prog, w0⟩ H1 D 1 IRow.cells ov rows := hs.frame (fun i hi => g3 i (hD i hi))
  have hq0 : ∀ x ∈ rows, SlR ⟨Try.prog, w0⟩ H1 D 1 intC x.val x.xs := fun x hx => (hq x hx).frame (fun i hi => g3 i (hD i hi))
  simp (disch := omega) [-hset_if, -Bool.decide_and, hset_ne, hs0.lenK]
  refine cif_dec (fun h => ?_) (fun h => ?_)
  · rw [drop_at h, List.map_cons, runS] at hT
    have hx1 := at_mem h
    have hr := hq0 _ hx1
    have hrc := hr.cells
    simp (disch := omega) [-hset_if, -Bool.decide_and, hset_ne]
    refine AW.draw (X := ⟨_, 44, _, _⟩) (id := 6) mixed (.take 0 <| .take 1 <| .take 2 <| .take 3 <| .take 4 <| .take 5 <| .take 7 <| .take 8 <| .take 9 <| .each 6 [0, 1, 7, 8, 9] (.each 10 [] (.take 11 <| .take 12 <| .take 13 <| .each 14 [11, 12, 13] (.each 15 [13] (.take 16 <| .done) <| .stop) <| .stop) <| .each 14 [0, 1, 7, 8, 9] (.each 10 [] (.take 11 <| .take 12 <| .take 13 <| .each 15 [13] (.take 16 <| .done) <| .stop) <| .stop) <| .stop) <| .each 14 [0, 1, 2, 3, 4, 5, 7, 8, 9] (.each 6 [0, 1, 7, 8, 9] (.each 10 [] (.take 11 <| .take 12 <| .take 13 <| .each 15 [13] (.take 16 <| .done) <| .stop) <| .stop) <| .stop) <| .stop) (by kernel_rfl) ?_
    simp (disch := omega) [-hset_if, -Bool.decide_and, hset_ne, g4, g5, hpc, hs0.ix elemS58, hs0.load0 shp60, hrc]
    refine ⟨?_, ?_, ?_⟩
    · refine ask_p (ls := (at_ rows (j : Int)).xs) (hr.frame (fun i hi => by have := hD i hi; first | rfl | simp (disch := omega) [-hset_if, -Bool.decide_and, hset_ne])) (fun i hi => by have := hD i hi; omega) (hx _ hx1) ?_
      intro av m1 G1 hM
      obtain ⟨u1, u2, u3, F1, u4, u5⟩ := hM.own (C := ⟨Try.prog, w0⟩) (by omega) (by simp [Req.cells])
      clear hM
      have u6 := u5.sl.cells
      have g4' : G1 n = .cells [.string nm, pv, .int .i64 dead] 24 1 := by rw [u3 n (by omega)]; first | exact g4 | simp (disch := omega) [-hset_if, -Bool.decide_and, hset_ne, g4]
      have g5' : G1 (n + 1) = .cells s.cells 29 1 := by rw [u3 (n + 1) (by omega)]; first | exact g5 | simp (disch := omega) [-hset_if, -Bool.decide_and, hset_ne, g5]
      have g3' : ∀ i, i < n → G1 i = H i := fun i hi => by rw [u3 i (by omega)]; first | exact g3 i hi | simp (disch := omega) [-hset_if, -Bool.decide_and, hset_ne, g3]
      have g6' : OwR ⟨Try.prog, w0⟩ G1 m1 F 29 2 Sta.cells v acc := g6.frame (by omega) (fun i hi => by have := g6.lt i hi; first | exact u3 i (by omega) | (rw [u3 i (by omega)]; simp (disch := omega) [-hset_if, -Bool.decide_and, hset_ne]))
      simp (disch := omega) [-hset_if, -Bool.decide_and, hset_ne, g4', g5', u6, hpc]
      refine ⟨?_, ?_⟩
      · refine Step_p (on := s.on) (left := s.left) (rs := (at_ rows (j : Int)).xs.map askR) (now := now + j) (hp.frame (fun i hi => by have := hE i hi; first | exact g3' i this | simp (disch := omega) [-hset_if, -Bool.decide_and, hset_ne, g3'])) (u5.sl.frame (fun i hi => by have := u4 i hi; first | rfl | simp (disch := omega) [-hset_if, -Bool.decide_and, hset_ne])) (fun i hi => by have := u4 i hi; omega) (fun i hi => by have := hE i hi; omega) (by simp; have := hx _ hx1; omega) ?_
        by_cases ht : timelyE ps.length dead s.on s.left ((at_ rows (j : Int)).xs.map askR) (now + j) = 0
        · rw [stepR, if_pos ht, stepS_next]
          rw [if_pos ht] at hT
          generalize nextS dead ⟨s.on, s.left⟩ ((at_ rows (j : Int)).xs.map askR) (now + j) = t at hT ⊢
          simp (disch := omega) [-hset_if, -Bool.decide_and, hset_ne, u3, g4, g5]
          refine (OwR.frame g6' (m := (m1 + 1)) (H' := hset (n + 1) (.cells [.int .i64 t.on, .int .i64 t.left] 29 1) (hset m1 (.cells [.int .i64 t.on, .int .i64 t.left] 29 1) G1)) (by omega) (fun i hi => by have := g6.lt i hi; have := g7 i hi; simp (disch := omega) [-hset_if, -Bool.decide_and, hset_ne])).push elemS61 zero29 rfl t rfl rfl rfl (by omega) (by omega) ?_
          intro v2 n3 H3 D2 p1 p2 p3 p4 p5
          simp (disch := omega) [-hset_if, -Bool.decide_and, hset_ne]
          refine Next.mk ⟨j + 1, t, v2, D2, acc ++ [t]⟩ (by simp only; omega) (by simp (disch := omega) [-hset_if, -Bool.decide_and, hset_ne]) ⟨by first | omega | (simp only; omega), by first | omega | (simp only; omega), fun i hi => ?_, ?_, ?_, p5, fun i hi => ?_, by simp [g8], ?_⟩
          · rw [p3 i (by omega) (fun h => by have := g7 i h; omega)]; simp (disch := omega) [-hset_if, -Bool.decide_and, hset_ne, g3']
          · rw [p3 n (by omega) (fun h => by have := g7 n h; omega)]; simp (disch := omega) [-hset_if, -Bool.decide_and, hset_ne, g4']
          · rw [p3 (n + 1) (by omega) (fun h => by have := g7 _ h; omega)]; simp (disch := omega) [-hset_if, -Bool.decide_and, hset_ne]
          · rcases p4 i hi with h | h
            · exact g7 i h
            · first | omega | (simp only; omega)
          · rw [hT]
            simp only [Option.map_map, List.map_drop]
            congr 1
            funext x
            simp
        · rw [stepR, if_neg ht]
          rw [if_neg ht] at hT
          have hb : (timelyE ps.length dead s.on s.left ((at_ rows (j : Int)).xs.map askR) (now + j) != 0) = true := by simpa using ht
          simp (disch := omega) [-hset_if, -Bool.decide_and, hset_ne, hb, u3, g4, g5]
          refine Fin_id ?_
          simp only [Option.map_none] at hT
          subst hT
          exact hk _ _ _ (fun _ => False) (by omega) (fun i hi => by simp (disch := omega) [-hset_if, -Bool.decide_and, hset_ne, g3']) (fun _ h => h.elim) (fun _ h => by simp at h) (fun _ => rfl)
      · refine Step_p (on := s.on) (left := s.left) (rs := (at_ rows (j : Int)).xs.map askR) (now := now + j) (hp.frame (fun i hi => by have := hE i hi; first | exact g3' i this | simp (disch := omega) [-hset_if, -Bool.decide_and, hset_ne, g3'])) (u5.sl.frame (fun i hi => by have := u4 i hi; first | rfl | simp (disch := omega) [-hset_if, -Bool.decide_and, hset_ne])) (fun i hi => by have := u4 i hi; omega) (fun i hi => by have := hE i hi; omega) (by simp; have := hx _ hx1; omega) ?_
        by_cases ht : timelyE ps.length dead s.on s.left ((at_ rows (j : Int)).xs.map askR) (now + j) = 0
        · rw [stepR, if_pos ht, stepS_next]
          rw [if_pos ht] at hT
          generalize nextS dead ⟨s.on, s.left⟩ ((at_ rows (j : Int)).xs.map askR) (now + j) = t at hT ⊢
          simp (disch := omega) [-hset_if, -Bool.decide_and, hset_ne, u3, g4, g5]
          refine (OwR.frame g6' (m := (m1 + 1)) (H' := hset (n + 1) (.cells [.int .i64 t.on, .int .i64 t.left] 29 1) (hset m1 (.cells [.int .i64 t.on, .int .i64 t.left] 29 1) G1)) (by omega) (fun i hi => by have := g6.lt i hi; have := g7 i hi; simp (disch := omega) [-hset_if, -Bool.decide_and, hset_ne])).push elemS61 zero29 rfl t rfl rfl rfl (by omega) (by omega) ?_
          intro v2 n3 H3 D2 p1 p2 p3 p4 p5
          simp (disch := omega) [-hset_if, -Bool.decide_and, hset_ne]
          refine Next.mk ⟨j + 1, t, v2, D2, acc ++ [t]⟩ (by simp only; omega) (by simp (disch := omega) [-hset_if, -Bool.decide_and, hset_ne]) ⟨by first | omega | (simp only; omega), by first | omega | (simp only; omega), fun i hi => ?_, ?_, ?_, p5, fun i hi => ?_, by simp [g8], ?_⟩
          · rw [p3 i (by omega) (fun h => by have := g7 i h; omega)]; simp (disch := omega) [-hset_if, -Bool.decide_and, hset_ne, g3']
          · rw [p3 n (by omega) (fun h => by have := g7 n h; omega)]; simp (disch := omega) [-hset_if, -Bool.decide_and, hset_ne, g4']
          · rw [p3 (n + 1) (by omega) (fun h => by have := g7 _ h; omega)]; simp (disch := omega) [-hset_if, -Bool.decide_and, hset_ne]
          · rcases p4 i hi with h | h
            · exact g7 i h
            · first | omega | (simp only; omega)
          · rw [hT]
            simp only [Option.map_map, List.map_drop]
            congr 1
            funext x
            simp
        · rw [stepR, if_neg ht]
          rw [if_neg ht] at hT
          have hb : (timelyE ps.length dead s.on s.left ((at_ rows (j : Int)).xs.map askR) (now + j) != 0) = true := by simpa using ht
          simp (disch := omega) [-hset_if, -Bool.decide_and, hset_ne, hb, u3, g4, g5]
          refine Fin_id ?_
          simp only [Option.map_none] at hT
          subst hT
          exact hk _ _ _ (fun _ => False) (by omega) (fun i hi => by simp (disch := omega) [-hset_if, -Bool.decide_and, hset_ne, g3']) (fun _ h => h.elim) (fun _ h => by simp at h) (fun _ => rfl)
    · rw [hs0.fresh0 (n := n) hD (by omega) (by omega) (by omega)]
      simp (disch := omega) [-hset_if, -Bool.decide_and, hset_ne, hs0.load0 shp60]
    · refine ask_p (ls := (at_ rows (j : Int)).xs) (hr.frame (fun i hi => by have := hD i hi; first | rfl | simp (disch := omega) [-hset_if, -Bool.decide_and, hset_ne])) (fun i hi => by have := hD i hi; omega) (hx _ hx1) ?_
      intro av m1 G1 hM
      obtain ⟨u1, u2, u3, F1, u4, u5⟩ := hM.own (C := ⟨Try.prog, w0⟩) (by omega) (by simp [Req.cells])
      clear hM
      have u6 := u5.sl.cells
      have g4' : G1 n = .cells [.string nm, pv, .int .i64 dead] 24 1 := by rw [u3 n (by omega)]; first | exact g4 | simp (disch := omega) [-hset_if, -Bool.decide_and, hset_ne, g4]
      have g5' : G1 (n + 1) = .cells s.cells 29 1 := by rw [u3 (n + 1) (by omega)]; first | exact g5 | simp (disch := omega) [-hset_if, -Bool.decide_and, hset_ne, g5]
      have g3' : ∀ i, i < n → G1 i = H i := fun i hi => by rw [u3 i (by omega)]; first | exact g3 i hi | simp (disch := omega) [-hset_if, -Bool.decide_and, hset_ne, g3]
      have g6' : OwR ⟨Try.prog, w0⟩ G1 m1 F 29 2 Sta.cells v acc := g6.frame (by omega) (fun i hi => by have := g6.lt i hi; first | exact u3 i (by omega) | (rw [u3 i (by omega)]; simp (disch := omega) [-hset_if, -Bool.decide_and, hset_ne]))
      simp (disch := omega) [-hset_if, -Bool.decide_and, hset_ne, g4', g5', u6, hpc]
      refine Step_p (on := s.on) (left := s.left) (rs := (at_ rows (j : Int)).xs.map askR) (now := now + j) (hp.frame (fun i hi => by have := hE i hi; first | exact g3' i this | simp (disch := omega) [-hset_if, -Bool.decide_and, hset_ne, g3'])) (u5.sl.frame (fun i hi => by have := u4 i hi; first | rfl | simp (disch := omega) [-hset_if, -Bool.decide_and, hset_ne])) (fun i hi => by have := u4 i hi; omega) (fun i hi => by have := hE i hi; omega) (by simp; have := hx _ hx1; omega) ?_
      by_cases ht : timelyE ps.length dead s.on s.left ((at_ rows (j : Int)).xs.map askR) (now + j) = 0
      · rw [stepR, if_pos ht, stepS_next]
        rw [if_pos ht] at hT
        generalize nextS dead ⟨s.on, s.left⟩ ((at_ rows (j : Int)).xs.map askR) (now + j) = t at hT ⊢
        simp (disch := omega) [-hset_if, -Bool.decide_and, hset_ne, u3, g4, g5]
        refine (OwR.frame g6' (m := m1) (H' := hset (n + 1) (.cells [.int .i64 t.on, .int .i64 t.left] 29 1) (hset n1 (.cells [.int .i64 t.on, .int .i64 t.left] 29 1) G1)) (by omega) (fun i hi => by have := g6.lt i hi; have := g7 i hi; simp (disch := omega) [-hset_if, -Bool.decide_and, hset_ne])).push elemS61 zero29 rfl t rfl rfl rfl (by omega) (by omega) ?_
        intro v2 n3 H3 D2 p1 p2 p3 p4 p5
        simp (disch := omega) [-hset_if, -Bool.decide_and, hset_ne]
        refine Next.mk ⟨j + 1, t, v2, D2, acc ++ [t]⟩ (by simp only; omega) (by simp (disch := omega) [-hset_if, -Bool.decide_and, hset_ne]) ⟨by first | omega | (simp only; omega), by first | omega | (simp only; omega), fun i hi => ?_, ?_, ?_, p5, fun i hi => ?_, by simp [g8], ?_⟩
        · rw [p3 i (by omega) (fun h => by have := g7 i h; omega)]; simp (disch := omega) [-hset_if, -Bool.decide_and, hset_ne, g3']
        · rw [p3 n (by omega) (fun h => by have := g7 n h; omega)]; simp (disch := omega) [-hset_if, -Bool.decide_and, hset_ne, g4']
        · rw [p3 (n + 1) (by omega) (fun h => by have := g7 _ h; omega)]; simp (disch := omega) [-hset_if, -Bool.decide_and, hset_ne]
        · rcases p4 i hi with h | h
          · exact g7 i h
          · first | omega | (simp only; omega)
        · rw [hT]
          simp only [Option.map_map, List.map_drop]
          congr 1
          funext x
          simp
      · rw [stepR, if_neg ht]
        rw [if_neg ht] at hT
        have hb : (timelyE ps.length dead s.on s.left ((at_ rows (j : Int)).xs.map askR) (now + j) != 0) = true := by simpa using ht
        simp (disch := omega) [-hset_if, -Bool.decide_and, hset_ne, hb, u3, g4, g5]
        refine Fin_id ?_
        simp only [Option.map_none] at hT
        subst hT
        exact hk _ _ _ (fun _ => False) (by omega) (fun i hi => by simp (disch := omega) [-hset_if, -Bool.decide_and, hset_ne, g3']) (fun _ h => h.elim) (fun _ h => by simp at h) (fun _ => rfl)
  · rw [List.drop_of_length_le (by omega)] at hT
    simp (disch := omega) [-hset_if, -Bool.decide_and, hset_ne]
    refine Fin_id ?_
    simp [runS] at hT
    subst hT
    exact hk _ _ v F (by omega) g3 (fun i hi => by have := g7 i hi; omega) (fun l hl => by simp at hl; subst hl; exact g6) (fun h => by simp at h)
end Go.Aw.S15
