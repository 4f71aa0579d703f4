/-
  Chapter 46: MediumPlays.
-/
import Derived.Test.YtjjapgagcepmfaaS46l
namespace Go.Aw.S46
open Go.RowKit Go.Proofs Go.Aw.Tab
attribute [local simp] Frame.cells Heard.cells Slot.cells
set_option linter.unusedSimpArgs false
set_option maxRecDepth 10000
set_option maxHeartbeats 2000000
set_option pp.deepTerms false
set_option pp.deepTerms.threshold 4
set_option pp.maxSteps 1500
theorem neg_nat (q : Nat) : ((q : Int) < 0) = False := by simp
variable {w0 : World} {n : Nat} {H : Heap} {K : Value → Nat → Heap → Prop} {k : Nat} {v : Value} {D : Nat → Prop} {hs : List Heard} {l : List Slot}
theorem plays_ok (hl : SlR ⟨Try.prog, w0⟩ H (fun _ => False) 2 Slot.cells v l) (hq : ∀ x ∈ l, ∀ G, SlR ⟨Try.prog, w0⟩ G (fun _ => False) 4 Frame.cells x.val x.sent) (st kind a b : Int)
    (hk : ∀ n' H', K (.bool true) n' H') : ACall ⟨Try.prog, w0⟩ 8 [v, .int .i64 st, .int .i64 kind, .int .i64 a, .int .i64 b] K n H := by
  refine ACall.run Try.func8 rfl Try.ntmps8 Try.results8 (by simp) fun J0 => ?_
  simp (disch := omega) [-hset_if, -Bool.decide_and, hset_ne]
  refine awake_ok _ _ _ _ ?_
  simp (disch := omega) [-hset_if, -Bool.decide_and, hset_ne]
  refine new_ok ?_
  intro H1 f1 m1
  simp (disch := omega) [-hset_if, -Bool.decide_and, hset_ne]
  refine small_ok (hl.frame (fun _ h => h.elim)) hq ?_
  rcases Bool.eq_false_or_eq_true (smallB l) with hsm | hsm
  case inr =>
    simp (disch := omega) [-hset_if, -Bool.decide_and, hset_ne, hsm]
    exact Fin_id (hk _ _)
  simp (disch := omega) [-hset_if, -Bool.decide_and, hset_ne, hsm]
  obtain ⟨hb, _⟩ := smallB_true hsm
  refine AW.while (σ := RS) (fun s => l.length + 1 - s.i) (fun s => [(0, v), (1, .int .i64 st), (2, .int .i64 kind), (3, .int .i64 a), (4, .int .i64 b), (11, .pointer (some ⟨new n, 0, none⟩)), (12, s.u), (13, .int .i64 s.i)])
    (fun s n1 H1 => s.i ≤ l.length ∧ n + 2 ≤ n1 ∧ Med w0 H1 n1 n s.v s.D (res (l.take s.i)) ∧ (∀ i, s.D i → n ≤ i) ∧ OwR ⟨Try.prog, w0⟩ H1 n1 s.E 27 5 Heard.cells s.u (res (l.take s.i)) ∧ (∀ i, s.E i → n < i ∧ ¬ s.D i))
    ⟨0, .slice none 0 0, fun _ => False, .slice (some ⟨new (n + 1), 0, none⟩) 0 0, (· = n + 1)⟩ ?_ ?_ ?_
  · simp (disch := omega) [-hset_if, -Bool.decide_and, hset_ne]
  · exact ⟨by simp, by omega, m1.frame (by omega) (hset_ne (by omega) _ _) (fun _ h => h.elim), fun _ h => h.elim, OwR.empty (by omega) (by omega) (by simp), fun i h => ⟨by omega, fun h => h⟩⟩
  rintro ⟨j, s, D, u, E⟩ n1 H1 ⟨g1, g2, g3, g4, g5, g6⟩
  dsimp only at g1 g2 g3 g4 g5 g6
  have hl1 : SlR ⟨Try.prog, w0⟩ H1 (fun _ => False) 2 Slot.cells v l := hl.frame (fun _ h => h.elim)
  have hlen : (res (l.take j)).length = j := by simp [res]; omega
  have hE := g5.lt
  have hw : ∀ h ∈ res (l.take j), h.what = 0 ∨ h.what = 1 ∨ h.what = 2 := fun _ h => res_what h
  have hz : ∀ h ∈ res (l.take j), h.what = 0 → h.frame = noFrame := fun _ h => res_zero h
  simp (disch := omega) [-hset_if, -Bool.decide_and, hset_ne, hl1.lenK, g1]
  refine last_ok g3 st (by omega) ?_
  intro o n2 H2 ho a1 a2
  have m2 : ∀ X, Med w0 (hset n2 X H2) (n2 + 1) n s D (res (l.take j)) := fun X => g3.frame (by omega) (by have := g3.lt; rw [hset_ne (by omega), a2 n g3.lt]) (fun i hi => by have := g3.own.lt i hi; rw [hset_ne (by omega), a2 i this])
  have u2 : ∀ X, OwR ⟨Try.prog, w0⟩ (hset n2 X H2) (n2 + 1) E 27 5 Heard.cells u (res (l.take j)) := fun X => g5.frame (by omega) (fun i hi => by have := g5.lt i hi; rw [hset_ne (by omega), a2 i this])
  have key : ∀ (n3 : Nat) (H3 : Heap) (X Y : AObj), n2 + 1 ≤ n3 → (∀ i, i < n2 + 1 → H3 i = hset n2 X H2 i) → Med w0 (hset n3 Y H3) (n3 + 1) n s D (res (l.take j)) ∧ OwR ⟨Try.prog, w0⟩ (hset n3 Y H3) (n3 + 1) E 27 5 Heard.cells u (res (l.take j)) := fun n3 H3 X Y c1 c2 =>
    ⟨(m2 X).frame (by omega) (by have := g3.lt; rw [hset_ne (by omega), c2 n (by omega)]) (fun i hi => by have := g3.own.lt i hi; rw [hset_ne (by omega), c2 i (by omega)]),
     (u2 X).frame (by omega) (fun i hi => by have := g5.lt i hi; rw [hset_ne (by omega), c2 i (by omega)])⟩
  rcases o with _ | q
  all_goals
    simp only [lastV]
    simp (disch := omega) [-hset_if, -Bool.decide_and, hset_ne, noFrame]
    refine refLast_ok (u2 _).sl (u2 .dead).lt st (by omega) ?_
    intro o' n3 H3 ho' b1 b2
    obtain rfl := ho.uniq ho'
    have m3 := fun Y => key n3 H3 _ Y b1 b2
    simp only [lastR]
    simp (disch := omega) [-hset_if, -Bool.decide_and, hset_ne, noFrame, b2, neg_nat]
    refine slots_ok (m3 _).1 ?_
    simp (disch := omega) [-hset_if, -Bool.decide_and, hset_ne, hlen]
    refine silence_ok (m3 _).1 (by omega) hz ?_
    simp (disch := omega) [-hset_if, -Bool.decide_and, hset_ne]
    refine refSilence_ok (m3 _).2.sl (by omega) ?_
    simp (disch := omega) [-hset_if, -Bool.decide_and, hset_ne]
    generalize hG3 : hset n3 _ H3 = G3
    have m3' : Med w0 G3 (n3 + 1) n s D (res (l.take j)) := hG3 ▸ (m3 _).1
    have u3' : OwR ⟨Try.prog, w0⟩ G3 (n3 + 1) E 27 5 Heard.cells u (res (l.take j)) := hG3 ▸ (m3 _).2
    have fr : ∀ (n4 : Nat) (H4 : Heap), n3 + 1 ≤ n4 → (∀ i, i < n3 + 1 → H4 i = G3 i) → Med w0 H4 n4 n s D (res (l.take j)) ∧ OwR ⟨Try.prog, w0⟩ H4 n4 E 27 5 Heard.cells u (res (l.take j)) := fun n4 H4 c1 c2 =>
      ⟨m3'.frame c1 (c2 n m3'.lt) (fun i hi => c2 i (m3'.own.lt i hi)), u3'.frame c1 (fun i hi => c2 i (u3'.lt i hi))⟩
    clear m3 hG3 key m2 u2 
    refine counts_ok m3' ?_
    intro n4 H4 c1 c2
    have x4 := fr n4 H4 c1 c2
    simp (disch := omega) [-hset_if, -Bool.decide_and, hset_ne]
    refine refCounts_ok x4.2.sl x4.2.lt (by omega) hw ?_
    intro n5 H5 c3 c4
    have x5 := fr n5 H5 (by omega) (fun i hi => by rw [c4 i (by omega), c2 i hi])
    simp (disch := omega) [-hset_if, -Bool.decide_and, hset_ne]
    refine between_ok x5.1 kind a b (by omega) ?_
    intro x n6 H6 X c5 c6 c7 c8
    have x6 := fr n6 H6 (by omega) (fun i hi => by rw [c6 i (by omega), c4 i (by omega), c2 i hi])
    simp (disch := omega) [-hset_if, -Bool.decide_and, hset_ne]
    refine refBetween_ok x6.2.sl x6.2.lt kind a b (by omega) ?_
    intro y n7 H7 Y c9 d1 d2 d3
    have x7 := fr n7 H7 (by omega) (fun i hi => by rw [d1 i (by omega), c6 i (by omega), c4 i (by omega), c2 i hi])
    have c8' : SlR ⟨Try.prog, w0⟩ H7 X 4 Frame.cells x (btw (res (l.take j)) kind a b (res (l.take j)).length) := c8.sl.frame (fun i hi => d1 i (c8.lt i hi))
    have hbl := btw_len (res (l.take j)) kind a b (res (l.take j)).length
    simp (disch := omega) [-hset_if, -Bool.decide_and, hset_ne]
    refine same_ok c8' d3.sl (by omega) ?_
    rw [decide_eq_true rfl]
    simp (disch := omega) [-hset_if, -Bool.decide_and, hset_ne]
    refine heard_ok x7.1 a ?_
    intro n8 H8 d4 d5
    rw [hlen]
    have x8 : ∀ X, Med w0 (hset n8 X H8) (n8 + 1) n s D (res (l.take j)) ∧ OwR ⟨Try.prog, w0⟩ (hset n8 X H8) (n8 + 1) E 27 5 Heard.cells u (res (l.take j)) := fun X => fr (n8 + 1) (hset n8 X H8) (by omega) (fun i hi => by rw [hset_ne (by omega), d5 i (by omega), d1 i (by omega), c6 i (by omega), c4 i (by omega), c2 i hi])
    have hl8 : ∀ G, SlR ⟨Try.prog, w0⟩ G (fun _ => False) 2 Slot.cells v l := fun G => hl.frame (fun _ h => h.elim)
    have z8 := fr n8 H8 (by omega) (fun i hi => by rw [d5 i (by omega), d1 i (by omega), c6 i (by omega), c4 i (by omega), c2 i hi])
    rcases (show a < 0 ∨ (0 ≤ a ∧ (j : Int) ≤ a) ∨ (0 ≤ a ∧ a < (j : Int)) by omega) with ha | ha | ha
    all_goals first
      | (rw [if_pos ha]
         simp (disch := omega) [-hset_if, -Bool.decide_and, hset_ne, show ¬ a < 0 by omega, show ¬ (j : Int) ≤ a by omega]
         refine AW.draw (X := ⟨_, 172, _, _⟩) (id := 22) mixed (.take 0 <| .take 1 <| .take 2 <| .take 3 <| .take 4 <| .take 5 <| .take 6 <| .take 7 <| .take 8 <| .take 9 <| .done) (by kernel_rfl) ?_
         simp (disch := omega) [-hset_if, -Bool.decide_and, hset_ne, z8.2.sl.ix elemS33, z8.2.sl.fresh0 z8.2.lt, z8.2.sl.load0 shp27, (hl8 H8).lenK])
      | (rw [if_neg (by omega)]
         simp (disch := omega) [-hset_if, -Bool.decide_and, hset_ne, noFrame, ha, (show ¬ a < 0 by omega), (hl8 H8).lenK])
      | (rw [if_neg (by omega)]
         simp (disch := omega) [-hset_if, -Bool.decide_and, hset_ne, noFrame, ha, (hl8 H8).lenK])
    all_goals
      generalize hG8 : hset n8 _ H8 = G8
      have m8 : Med w0 G8 (n8 + 1) n s D (res (l.take j)) := hG8 ▸ (x8 _).1
      have u8 : OwR ⟨Try.prog, w0⟩ G8 (n8 + 1) E 27 5 Heard.cells u (res (l.take j)) := hG8 ▸ (x8 _).2
      clear hG8 x8 z8 x7 x6 x5 x4 fr m3' u3'
      refine cif_beq (fun hj => ?_) (fun hj => ?_)
      · simp (disch := omega) [-hset_if, -Bool.decide_and, hset_ne]
        exact Fin_id (hk _ _)
      have h : j < l.length := by omega
      have hx : at_ l (j : Int) ∈ l := by rw [at_nat h]; exact List.getElem_mem _
      simp (disch := omega) [-hset_if, -Bool.decide_and, hset_ne]
      refine AW.draw (X := ⟨_, 172, _, _⟩) (id := 25) mixed (.take 0 <| .take 1 <| .take 2 <| .take 3 <| .take 4 <| .take 5 <| .take 6 <| .take 7 <| .take 8 <| .take 9 <| .each 10 [] (.each 11 [] (.each 12 [] (.done) <| .stop) <| .stop) <| .each 11 [0, 1, 2, 3, 4, 5, 6, 7, 8, 9] (.each 10 [] (.each 12 [] (.done) <| .stop) <| .stop) <| .stop) (by kernel_rfl) ?_
      have hlG := hl8 G8
      simp (disch := omega) [-hset_if, -Bool.decide_and, hset_ne, hlG.ix elemS30, hlG.load0 shp22, hlG.load shp22, hlG.load shp4, hlG.fresh0 (n := n8 + 1) (fun _ h => h.elim), hlG.fresh (n := n8 + 1) (fun _ h => h.elim)]
      refine ⟨?_, ?_⟩
      all_goals
        refine refResolve_ok (hq _ hx _) (fun _ h => h.elim) ?_
        intro n9 H9 e1 e2
        have hl9 := hl8 H9
        simp (disch := omega) [-hset_if, -Bool.decide_and, hset_ne, e2, hl9.ix elemS30]
        refine AW.draw (X := ⟨_, 172, _, _⟩) (id := 26) mixed (.take 0 <| .take 1 <| .take 2 <| .take 3 <| .take 4 <| .take 5 <| .take 6 <| .take 7 <| .take 8 <| .take 9 <| .take 10 <| .take 12 <| .each 11 [12] (.take 13 <| .done) <| .stop) (by kernel_rfl) ?_
        simp (disch := omega) [-hset_if, -Bool.decide_and, hset_ne, e2, hl9.ix elemS30, hl9.fresh0 (n := n8 + 1) (fun _ h => h.elim), hl9.fresh (n := n8 + 1) (fun _ h => h.elim), hl9.load0 shp22, hl9.load shp22, hl9.load shp4]
        refine slot_ok (m8.frame (by omega) (by have := m8.lt; simp (disch := omega) [-hset_if, -Bool.decide_and, hset_ne, e2]) (fun i hi => by have := m8.own.lt i hi; simp (disch := omega) [-hset_if, -Bool.decide_and, hset_ne, e2])) (hq _ hx _) (fun _ h => h.elim) (by omega) ?_
        intro s2 n10 H10 D2 e3 e4 e5 e6
        have hD : ∀ i, n8 + 1 ≤ i → ¬ D i := fun i hi h => by have := m8.own.lt i h; omega
        have e7 := fun i (h1 : n8 + 1 ≤ i) h2 => e4 i h2 (by have := m8.lt; omega) (hD i h1)
        have hn8 := m8.lt
        have u10 : OwR ⟨Try.prog, w0⟩ H10 n10 E 27 5 Heard.cells u (res (l.take j)) := u8.frame (by omega) (fun i hi => by
          have h1 := u8.lt i hi
          have h2 := g6 i hi
          rw [e4 i (by omega) (by omega) h2.2]
          simp (disch := omega) [-hset_if, -Bool.decide_and, hset_ne, e2])
        simp (disch := omega) [-hset_if, -Bool.decide_and, hset_ne, e7]
        refine u10.push elemS33 zero27 rfl (resolve (at_ l (j : Int)).sent (at_ l (j : Int)).damaged) rfl rfl rfl (by omega) (by omega) ?_
        intro u2 n11 H11 E2 q1 q2 q3 q4 q5
        simp (disch := omega) [-hset_if, -Bool.decide_and, hset_ne]
        have hE2 : ∀ i, D2 i → ¬ E i := fun i hi he => by
          have h1 := u8.lt i he
          rcases e5 i hi with h | h
          · exact (g6 i he).2 h
          · omega
        refine Next.mk ⟨j + 1, s2, D2, u2, E2⟩ (by first | omega | (simp only; omega)) (by simp (disch := omega) [-hset_if, -Bool.decide_and, hset_ne]) ⟨by simp only; omega, by omega, ?_, fun i hi => ?_, ?_, fun i hi => ?_⟩
        · rw [res_take h]
          exact e6.frame (by omega) (q3 n (by omega) (fun h => by have := (g6 n h).1; omega)) (fun i hi => q3 i (e6.own.lt i hi) (hE2 i hi))
        · rcases e5 i hi with h | h
          · exact g4 i h
          · omega
        · rw [res_take h]; exact q5
        · rcases q4 i hi with h | h
          · exact ⟨(g6 i h).1, fun hd => hE2 i hd h⟩
          · exact ⟨by omega, fun hd => by have := e6.own.lt i hd; omega⟩
end Go.Aw.S46
