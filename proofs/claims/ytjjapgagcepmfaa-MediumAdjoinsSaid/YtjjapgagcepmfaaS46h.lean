/-
  Chapter 46: the reference's Counts; small; run.
-/
import Derived.Test.YtjjapgagcepmfaaS46g
namespace Go.Aw.S46
open Go.RowKit Go.Proofs Go.Aw.Tab
attribute [local simp] Frame.cells Heard.cells Slot.cells
set_option linter.unusedSimpArgs false
set_option maxRecDepth 10000
set_option maxHeartbeats 1000000
set_option pp.deepTerms false
set_option pp.deepTerms.threshold 4
set_option pp.maxSteps 1500
variable {w0 : World} {n : Nat} {H : Heap} {K : Value → Nat → Heap → Prop} {k : Nat} {v : Value} {D : Nat → Prop} {hs : List Heard}
theorem cnt_take (q : Int) {hs : List Heard} {j : Nat} (h : j < hs.length) : cnt q (hs.take (j + 1)) = cnt q (hs.take j) + if (at_ hs (j : Int)).what = q then 1 else 0 := by
  rw [List.take_succ_eq_append_getElem h, cnt_snoc, at_nat h]
theorem refCounts_ok (hs' : SlR ⟨Try.prog, w0⟩ H D 5 Heard.cells v hs) (hD : ∀ i, D i → i < n) (hb : hs.length ≤ 1000000) (hw : ∀ h ∈ hs, h.what = 0 ∨ h.what = 1 ∨ h.what = 2)
    (hk : ∀ n' H', n ≤ n' → (∀ i, i < n → H' i = H i) → K (.agg #[.int .i64 (cnt 0 hs), .int .i64 (cnt 1 hs), .int .i64 (cnt 2 hs)]) n' H') :
    ACall ⟨Try.prog, w0⟩ 25 [v] K n H := by
  refine ACall.run Try.func25 rfl Try.ntmps25 Try.results25 (by simp) fun J0 => ?_
  simp (disch := omega) [-hset_if, -Bool.decide_and, hset_ne]
  refine AW.while (σ := Nat) (fun j => hs.length - j) (fun j => [(0, v), (2, .pointer (some ⟨new n, 0, none⟩)), (3, .pointer (some ⟨new (n + 1), 0, none⟩)), (4, .int .i64 j)])
    (fun j n1 H1 => j ≤ hs.length ∧ n + 2 ≤ n1 ∧ (∀ i, i < n → H1 i = H i) ∧ (∃ cs, H1 n = .cells [.int .i64 0, .int .i64 0, .int .i64 0] 43 cs) ∧ H1 (n + 1) = .cells [.int .i64 (cnt 0 (hs.take j)), .int .i64 (cnt 1 (hs.take j)), .int .i64 (cnt 2 (hs.take j))] 43 1) 0 ?_ ?_ ?_
  · simp (disch := omega) [-hset_if, -Bool.decide_and, hset_ne]
  · exact ⟨by omega, by omega, (fun i hi => by simp (disch := omega) only [hset_ne]), ⟨1, by simp (disch := omega) [-hset_if, -Bool.decide_and, hset_ne]⟩, by simp (disch := omega) [-hset_if, -Bool.decide_and, hset_ne, cnt]⟩
  rintro j n1 H1 ⟨g1, g2, g3, ⟨cs, g4⟩, g5⟩
  have hs1 : SlR ⟨Try.prog, w0⟩ H1 D 5 Heard.cells v hs := hs'.frame (fun i hi => g3 i (hD i hi))
  simp (disch := omega) [-hset_if, -Bool.decide_and, hset_ne, hs1.lenK]
  refine cif_dec (fun h => ?_) (fun h => ?_)
  · have e0 := cnt_take 0 h
    have e1 := cnt_take 1 h
    have e2 := cnt_take 2 h
    have c0 := cnt_le 0 (hs.take j)
    have c1 := cnt_le 1 (hs.take j)
    have c2 := cnt_le 2 (hs.take j)
    rw [List.length_take] at c0 c1 c2
    have hx := hw _ (show at_ hs (j : Int) ∈ hs by rw [at_nat h]; exact List.getElem_mem _)
    rcases hx with hx | hx | hx
    all_goals
      simp (disch := omega) [-hset_if, -Bool.decide_and, hset_ne, hs1.ix elemS33, hs1.load shp3, hs1.load0 shp3, g5, hx]
      refine Next.mk (j + 1) (by first | omega | (simp only; omega)) (by simp (disch := omega) [-hset_if, -Bool.decide_and, hset_ne]) ⟨by omega, by omega, fun q hq => by simp (disch := omega) [-hset_if, -Bool.decide_and, hset_ne, g3], ⟨cs, by simp (disch := omega) [-hset_if, -Bool.decide_and, hset_ne, g4]⟩, ?_⟩
      simp (disch := omega) [-hset_if, -Bool.decide_and, hset_ne, e0, e1, e2, hx]
  · simp (disch := omega) [-hset_if, -Bool.decide_and, hset_ne, g5, g4]
    refine Fin_id ?_
    obtain rfl : j = hs.length := by omega
    rw [List.take_length] 
    exact hk _ _ (by omega) (fun q hq => by simp (disch := omega) [-hset_if, -Bool.decide_and, hset_ne, g3])
def smallB (l : List Slot) : Bool := decide (l.length ≤ 60 ∧ ∀ x ∈ l, x.sent.length ≤ 8)
variable {l : List Slot}
theorem small_ok (hl : SlR ⟨Try.prog, w0⟩ H (fun _ => False) 2 Slot.cells v l) (hq : ∀ x ∈ l, ∀ G, SlR ⟨Try.prog, w0⟩ G (fun _ => False) 4 Frame.cells x.val x.sent) (hk : K (.bool (smallB l)) n H) :
    ACall ⟨Try.prog, w0⟩ 12 [v] K n H := by
  refine ACall.run Try.func12 rfl Try.ntmps12 Try.results12 (by simp) fun J0 => ?_
  simp (disch := omega) [-hset_if, -Bool.decide_and, hset_ne, hl.lenK]
  refine cif_dec (fun h60 => ?_) (fun h60 => ?_)
  · simp (disch := omega) [-hset_if, -Bool.decide_and, hset_ne]
    refine Fin_id ?_
    rw [smallB, decide_eq_false (fun h => by omega)] at hk
    exact hk
  simp (disch := omega) [-hset_if, -Bool.decide_and, hset_ne]
  refine AW.while (σ := Nat) (fun j => l.length - j) (fun j => [(0, v), (3, .int .i64 j)]) (fun j n1 H1 => j ≤ l.length ∧ n1 = n ∧ H1 = H ∧ ∀ q, q < j → (at_ l (q : Int)).sent.length ≤ 8) 0 ?_ ?_ ?_
  · simp (disch := omega) [-hset_if, -Bool.decide_and, hset_ne]
  · exact ⟨by omega, rfl, rfl, fun q hq => by omega⟩
  rintro j n1 H1 ⟨g1, rfl, rfl, g4⟩
  simp (disch := omega) [-hset_if, -Bool.decide_and, hset_ne, hl.lenK]
  refine cif_dec (fun h => ?_) (fun h => ?_)
  · have hx : at_ l (j : Int) ∈ l := by rw [at_nat h]; exact List.getElem_mem _
    simp (disch := omega) [-hset_if, -Bool.decide_and, hset_ne, hl.ix elemS30, hl.load0 shp22, hl.load shp22, (hq _ hx H1).lenK]
    refine cif_dec (fun h8 => ?_) (fun h8 => ?_)
    · simp (disch := omega) [-hset_if, -Bool.decide_and, hset_ne]
      refine Fin_id ?_
      rw [smallB, decide_eq_false (fun h => by have := h.2 _ hx; omega)] at hk
      exact hk
    · simp (disch := omega) [-hset_if, -Bool.decide_and, hset_ne]
      refine Next.mk (j + 1) (by first | omega | (simp only; omega)) (by simp (disch := omega) [-hset_if, -Bool.decide_and, hset_ne]) ⟨by omega, rfl, rfl, fun q hq2 => ?_⟩
      by_cases e : q < j
      · exact g4 q e
      · obtain rfl : q = j := by omega
        omega
  · simp (disch := omega) [-hset_if, -Bool.decide_and, hset_ne]
    refine Fin_id ?_
    rw [smallB, decide_eq_true ⟨by omega, fun x hx => by
      obtain ⟨q, q1, rfl⟩ := List.getElem_of_mem hx
      have := g4 q (by omega)
      rwa [at_nat q1] at this⟩] at hk
    exact hk
def res (l : List Slot) : List Heard := l.map fun x => resolve x.sent x.damaged
theorem res_take {j : Nat} (h : j < l.length) : res (l.take (j + 1)) = res (l.take j) ++ [resolve (at_ l (j : Int)).sent (at_ l (j : Int)).damaged] := by
  unfold res
  rw [List.take_succ_eq_append_getElem h, List.map_append, at_nat h]
  rfl
structure RS where
  i : Nat
  v : Value
  D : Nat → Prop
  u : Value
  E : Nat → Prop
theorem run_ok (hl : SlR ⟨Try.prog, w0⟩ H (fun _ => False) 2 Slot.cells v l) (hq : ∀ x ∈ l, ∀ G, SlR ⟨Try.prog, w0⟩ G (fun _ => False) 4 Frame.cells x.val x.sent) (hb : l.length ≤ 60)
    (hk : ∀ s D u E n' H', n ≤ n' → (∀ i, i < n → H' i = H i) → (∀ i, D i → n ≤ i) → (∀ i, E i → n < i ∧ ¬ D i) → Med w0 H' n' n s D (res l) → OwR ⟨Try.prog, w0⟩ H' n' E 27 5 Heard.cells u (res l) → K (.tuple #[.pointer (some ⟨new n, 0, none⟩), u]) n' H') :
    ACall ⟨Try.prog, w0⟩ 13 [v] K n H := by
  refine ACall.run Try.func13 rfl Try.ntmps13 Try.results13 (by simp) fun J0 => ?_
  simp (disch := omega) [-hset_if, -Bool.decide_and, hset_ne]
  refine new_ok ?_
  intro H0 f0 m0
  simp (disch := omega) [-hset_if, -Bool.decide_and, hset_ne]
  refine AW.while (σ := RS) (fun s => l.length - s.i) (fun s => [(0, v), (4, .pointer (some ⟨new n, 0, none⟩)), (5, s.u), (6, .int .i64 s.i)])
    (fun s n1 H1 => s.i ≤ l.length ∧ n + 2 ≤ n1 ∧ (∀ i, i < n → H1 i = H i) ∧ Med w0 H1 n1 n s.v s.D (res (l.take s.i)) ∧ (∀ i, s.D i → n ≤ i) ∧ OwR ⟨Try.prog, w0⟩ H1 n1 s.E 27 5 Heard.cells s.u (res (l.take s.i)) ∧ (∀ i, s.E i → n < i ∧ ¬ s.D i))
    ⟨0, .slice none 0 0, fun _ => False, .slice (some ⟨new (n + 1), 0, none⟩) 0 0, (· = n + 1)⟩ ?_ ?_ ?_
  · simp (disch := omega) [-hset_if, -Bool.decide_and, hset_ne]
  · exact ⟨by simp, by omega, fun i hi => by simp (disch := omega) [-hset_if, -Bool.decide_and, hset_ne, f0], m0.frame (by omega) (hset_ne (by omega) _ _) (fun _ h => h.elim), fun _ h => h.elim, OwR.empty (by omega) (by omega) (by simp), fun i h => ⟨by omega, fun h => h⟩⟩
  rintro ⟨j, s, D, u, E⟩ n1 H1 ⟨g1, g2, g3, g4, g5, g6, g7⟩
  dsimp only at g1 g2 g3 g4 g5 g6 g7
  have hl1 : SlR ⟨Try.prog, w0⟩ H1 (fun _ => False) 2 Slot.cells v l := hl.frame (fun _ h => h.elim)
  have hlen : (res (l.take j)).length = j := by simp [res]; omega
  simp (disch := omega) [-hset_if, -Bool.decide_and, hset_ne, hl1.lenK]
  refine gif_dec (fun h => ?_) (fun h => ?_)
  · have hx : at_ l (j : Int) ∈ l := by rw [at_nat h]; exact List.getElem_mem _
    simp (disch := omega) [-hset_if, -Bool.decide_and, hset_ne]
    refine AW.draw (X := ⟨_, 36, _, _⟩) (id := 6) mixed (.take 0 <| .take 1 <| .take 2 <| .take 3 <| .take 4 <| .take 5 <| .take 6 <| .take 7 <| .take 8 <| .take 9 <| .take 10 <| .take 11 <| .each 12 [0] (.each 13 [0] (.each 14 [] (.take 15 <| .done) <| .stop) <| .stop) <| .stop) (by kernel_rfl) ?_
    simp (disch := omega) [-hset_if, -Bool.decide_and, hset_ne, hl1.ix elemS30, hl1.load0 shp22, hl1.load shp22, hl1.load shp4, hl1.load0 shp4]
    refine slot_ok g4 (hq _ hx H1) (fun _ h => h.elim) (by omega) ?_
    intro s2 n2 H2 D2 p1 p2 p3 p4
    simp (disch := omega) [-hset_if, -Bool.decide_and, hset_ne]
    have g8 : OwR ⟨Try.prog, w0⟩ H2 n2 E 27 5 Heard.cells u (res (l.take j)) := g6.frame p1 (fun i hi => p2 i (g6.lt i hi) (by have := (g7 i hi).1; omega) (g7 i hi).2)
    refine g8.push elemS33 zero27 rfl (resolve (at_ l (j : Int)).sent (at_ l (j : Int)).damaged) rfl rfl rfl (by omega) (by omega) ?_
    intro u2 n3 H3 E2 q1 q2 q3 q4 q5
    simp (disch := omega) [-hset_if, -Bool.decide_and, hset_ne]
    have hE : ∀ i, D2 i → ¬ E i := fun i hi he => by
      rcases p3 i hi with h | h
      · exact (g7 i he).2 h
      · have := g6.lt i he; omega
    refine Next.mk ⟨j + 1, s2, D2, u2, E2⟩ (by first | omega | (simp only; omega)) (by simp (disch := omega) [-hset_if, -Bool.decide_and, hset_ne]) ⟨by simp only; omega, by omega, fun i hi => ?_, ?_, fun i hi => ?_, ?_, fun i hi => ?_⟩
    · rw [q3 i (by omega) (fun h => by have := (g7 i h).1; omega), p2 i (by omega) (by omega) (fun h => by have := g5 i h; omega), g3 i hi]
    · rw [res_take h]
      exact p4.frame (by omega) (q3 n (by omega) (fun h => by have := (g7 n h).1; omega)) (fun i hi => q3 i (p4.own.lt i hi) (hE i hi))
    · rcases p3 i hi with h | h
      · exact g5 i h
      · omega
    · rw [res_take h]; exact q5
    · rcases q4 i hi with h | h
      · exact ⟨(g7 i h).1, fun hd => hE i hd h⟩
      · exact ⟨by omega, fun hd => by have := p4.own.lt i hd; omega⟩
  · simp (disch := omega) [-hset_if, -Bool.decide_and, hset_ne]
    refine Fin_id ?_
    obtain rfl : j = l.length := by omega
    rw [List.take_length] at g4 g6
    exact hk _ _ _ _ _ _ (by omega) g3 g5 g7 g4 g6
end Go.Aw.S46
