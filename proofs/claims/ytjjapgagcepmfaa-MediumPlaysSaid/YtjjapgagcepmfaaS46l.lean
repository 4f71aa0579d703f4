/-
  Chapter 46: MediumAdjoins.
-/
import Derived.Test.YtjjapgagcepmfaaS46k
namespace Go.Aw.S46
open Go.RowKit Go.Proofs Go.Aw.Tab
attribute [local simp] Frame.cells Heard.cells Slot.cells
set_option linter.unusedSimpArgs false
set_option maxRecDepth 10000
set_option maxHeartbeats 1000000
set_option pp.deepTerms false
set_option pp.deepTerms.threshold 4
set_option pp.maxSteps 1500
variable {w0 : World} {n : Nat} {H : Heap} {K : Value → Nat → Heap → Prop} {k : Nat} {v : Value} {D : Nat → Prop} {hs : List Heard} {l : List Slot}
theorem btw_empty (hs : List Heard) (kind a b : Int) : ∀ i : Nat, (i : Int) ≤ a → btw hs kind a b i = []
  | 0, _ => rfl
  | i + 1, h => by
    simp only [btw]
    rw [btw_empty hs kind a b i (by omega), if_neg (by omega)]; rfl
theorem btw_join (hs : List Heard) (kind : Int) {a b c : Int} (h1 : a ≤ b) (h2 : b < c) : ∀ i : Nat, btw hs kind a b i ++ btw hs kind (b + 1) c i = btw hs kind a c i
  | 0 => rfl
  | i + 1 => by
    have ih := btw_join hs kind h1 h2 i
    simp only [btw]
    by_cases hb : (i : Int) ≤ b
    · rw [btw_empty hs kind (b + 1) c i (by omega)] at ih ⊢
      rw [List.append_nil] at ih
      rw [ih]
      rw [if_neg (c := b + 1 ≤ (i : Int) ∧ _) (by omega)]
      simp only [List.append_nil, hb, true_and, show (i : Int) ≤ c from by omega]
    · rw [if_neg (c := a ≤ (i : Int) ∧ (i : Int) ≤ b ∧ _) (by omega), List.append_nil, ← ih, List.append_assoc]
      congr 2
      simp only [show a ≤ (i : Int) from by omega, show b + 1 ≤ (i : Int) from by omega, true_and]
structure AS where
  i : Nat
theorem adjoins_ok (hl : SlR ⟨Try.prog, w0⟩ H (fun _ => False) 2 Slot.cells v l) (hq : ∀ x ∈ l, ∀ G, SlR ⟨Try.prog, w0⟩ G (fun _ => False) 4 Frame.cells x.val x.sent) (kind a b c : Int) (wc : c ≤ 9223372036854775807) (wa : -9223372036854775808 ≤ a)
    (hk : ∀ n' H', K (.bool true) n' H') : ACall ⟨Try.prog, w0⟩ 7 [v, .int .i64 kind, .int .i64 a, .int .i64 b, .int .i64 c] K n H := by
  refine ACall.run Try.func7 rfl Try.ntmps7 Try.results7 (by simp) fun J0 => ?_
  simp (disch := omega) [-hset_if, -Bool.decide_and, hset_ne]
  refine awake_ok _ _ _ _ ?_
  simp (disch := omega) [-hset_if, -Bool.decide_and, hset_ne]
  refine small_ok hl hq ?_
  rcases Bool.eq_false_or_eq_true (smallB l) with hsm | hsm
  case inr =>
    simp (disch := omega) [-hset_if, -Bool.decide_and, hset_ne, hsm]
    exact Fin_id (hk _ _)
  simp (disch := omega) [-hset_if, -Bool.decide_and, hset_ne, hsm]
  refine gif_dec (fun hab => ?_) (fun hab => ?_)
  · simp (disch := omega) [-hset_if, -Bool.decide_and, hset_ne]
    exact Fin_id (hk _ _)
  simp (disch := omega) [-hset_if, -Bool.decide_and, hset_ne]
  refine cif_dec (fun hbc => ?_) (fun hbc => ?_)
  · simp (disch := omega) [-hset_if, -Bool.decide_and, hset_ne]
    exact Fin_id (hk _ _)
  simp (disch := omega) [-hset_if, -Bool.decide_and, hset_ne]
  obtain ⟨hb, _⟩ := smallB_true hsm
  refine run_ok hl hq hb ?_
  intro s D u0 E n1 H1 p1 p2 p3 p4 p5 p6
  have hrl := @res_len l
  simp (disch := omega) [-hset_if, -Bool.decide_and, hset_ne]
  refine between_ok p5 kind a b (by omega) ?_
  intro x n2 H2 X a1 a2 a3 a4
  have m2 : Med w0 H2 n2 n s D (res l) := p5.frame a1 (a2 n p5.lt) (fun i hi => a2 i (p5.own.lt i hi))
  simp (disch := omega) [-hset_if, -Bool.decide_and, hset_ne]
  refine between_ok m2 kind (b + 1) c (by omega) ?_
  intro y n3 H3 Y b1 b2 b3 b4
  have m3 : Med w0 H3 n3 n s D (res l) := m2.frame b1 (b2 n m2.lt) (fun i hi => b2 i (m2.own.lt i hi))
  have x3 : OwR ⟨Try.prog, w0⟩ H3 n3 X 25 4 Frame.cells x (btw (res l) kind a b (res l).length) := a4.frame b1 (fun i hi => b2 i (a4.lt i hi))
  have l1 := btw_len (res l) kind a b (res l).length
  have l2 := btw_len (res l) kind (b + 1) c (res l).length
  have l3 := btw_len (res l) kind a c (res l).length
  simp (disch := omega) [-hset_if, -Bool.decide_and, hset_ne]
  have e0 : OwR ⟨Try.prog, w0⟩ (hset n3 (.cells [] 25 4) H3) (n3 + 1) (· = n3) 25 4 Frame.cells (.slice (some ⟨new n3, 0, none⟩) 0 0) [] := OwR.empty (by omega) (by omega) (hset_same _ _ _)
  have x4 : OwR ⟨Try.prog, w0⟩ (hset n3 (.cells [] 25 4) H3) (n3 + 1) X 25 4 Frame.cells x (btw (res l) kind a b (res l).length) := x3.frame (by omega) (fun i hi => hset_ne (by have := x3.lt i hi; omega) _ _)
  refine e0.appendS elemS22 zero25 rfl x4.sl (fun _ _ => rfl) (by simp; omega) (by simp; omega) ?_
  intro v5 n5 H5 D5 c1 c2 c3 c4 c5
  have y5 : OwR ⟨Try.prog, w0⟩ H5 n5 Y 25 4 Frame.cells y (btw (res l) kind (b + 1) c (res l).length) := b4.frame (by omega) (fun i hi => by have := b4.lt i hi; rw [c3 i (by omega) (by omega), hset_ne (by omega)])
  simp (disch := omega) [-hset_if, -Bool.decide_and, hset_ne]
  refine c5.appendS elemS22 zero25 rfl y5.sl (fun _ _ => rfl) (by simp; omega) (by simp; omega) ?_
  intro v6 n6 H6 D6 d1 d2 d3 d4 d5
  have f6 : ∀ i, i < n3 → H6 i = H3 i := fun i hi => by
    rw [d3 i (by omega) (fun h => by rcases c4 i h with e | e <;> omega), c3 i (by omega) (by omega), hset_ne (by omega)]
  have m6 : Med w0 H6 n6 n s D (res l) := m3.frame (by omega) (f6 n m3.lt) (fun i hi => f6 i (m3.own.lt i hi))
  simp (disch := omega) [-hset_if, -Bool.decide_and, hset_ne]
  refine between_ok m6 kind a c (by omega) ?_
  intro z n7 H7 Z g1 g2 g3 g4
  have hj := btw_join (res l) kind (show a ≤ b by omega) (show b < c by omega) (res l).length
  rw [List.nil_append, hj] at d5
  have d7 : SlR ⟨Try.prog, w0⟩ H7 D6 4 Frame.cells v6 (btw (res l) kind a c (res l).length) := d5.sl.frame (fun i hi => g2 i (d5.lt i hi))
  have m7 : Med w0 H7 n7 n s D (res l) := m6.frame g1 (g2 n m6.lt) (fun i hi => g2 i (m6.own.lt i hi))
  have p7 : SlR ⟨Try.prog, w0⟩ H7 E 5 Heard.cells u0 (res l) := p6.sl.frame (fun i hi => by
    have h1 := p6.lt i hi
    rw [g2 i (by omega), f6 i (by omega), b2 i (by omega), a2 i h1])
  simp (disch := omega) [-hset_if, -Bool.decide_and, hset_ne]
  refine same_ok d7 g4.sl (by omega) ?_
  rw [decide_eq_true rfl]
  simp (disch := omega) [-hset_if, -Bool.decide_and, hset_ne]
  refine AW.while (σ := Nat) (fun j => (res l).length - j) (fun j => [(0, v), (1, .int .i64 kind), (11, .pointer (some ⟨new n, 0, none⟩)), (12, u0), (15, .int .i64 (btw (res l) kind 0 (res l).length j).length), (16, .int .i64 j)]) (fun j n8 H8 => j ≤ (res l).length ∧ n8 = n7 ∧ H8 = H7) 0 ?_ ?_ ?_
  · simp (disch := omega) [-hset_if, -Bool.decide_and, hset_ne, btw]
  · exact ⟨by omega, rfl, rfl⟩
  rintro j n8 H8 ⟨h1, rfl, rfl⟩
  have lj := btw_len (res l) kind 0 (res l).length j
  simp (disch := omega) [-hset_if, -Bool.decide_and, hset_ne, p7.lenK]
  refine cif_dec (fun h => ?_) (fun h => ?_)
  · have skip : ¬ ((at_ (res l) (j : Int)).what = 1 ∧ (at_ (res l) (j : Int)).frame.kind = kind) → btw (res l) kind 0 (res l).length (j + 1) = btw (res l) kind 0 (res l).length j := fun hn => by
      simp only [btw]; rw [if_neg (fun hc => hn hc.2.2), List.append_nil]
    simp (disch := omega) [-hset_if, -Bool.decide_and, hset_ne, p7.ix elemS33, p7.load shp3, p7.load0 shp3]
    refine gif_beq (fun e1 => ?_) (fun e1 => ?_)
    · simp (disch := omega) [-hset_if, -Bool.decide_and, hset_ne, p7.ix elemS33, p7.load shp3, p7.load0 shp3, Addr.add_add]
      refine cif_beq (fun e2 => ?_) (fun e2 => ?_)
      · simp (disch := omega) [-hset_if, -Bool.decide_and, hset_ne]
        refine Next.mk (j + 1) (by first | omega | (simp only; omega)) ?_ ⟨by omega, rfl, rfl⟩
        have : (btw (res l) kind 0 (res l).length (j + 1)).length = (btw (res l) kind 0 (res l).length j).length + 1 := by
          simp only [btw]; rw [if_pos ⟨by omega, by omega, e1, e2⟩, List.length_append]; rfl
        simp (disch := omega) [-hset_if, -Bool.decide_and, hset_ne, this]
      · simp (disch := omega) [-hset_if, -Bool.decide_and, hset_ne]
        refine Next.mk (j + 1) (by first | omega | (simp only; omega)) ?_ ⟨by omega, rfl, rfl⟩
        simp (disch := omega) [-hset_if, -Bool.decide_and, hset_ne, skip (fun hc => e2 hc.2)]
    · simp (disch := omega) [-hset_if, -Bool.decide_and, hset_ne]
      refine Next.mk (j + 1) (by first | omega | (simp only; omega)) ?_ ⟨by omega, rfl, rfl⟩
      simp (disch := omega) [-hset_if, -Bool.decide_and, hset_ne, skip (fun hc => e1 hc.1)]
  · have hl7 : SlR ⟨Try.prog, w0⟩ H8 (fun _ => False) 2 Slot.cells v l := hl.frame (fun _ h => h.elim)
    simp (disch := omega) [-hset_if, -Bool.decide_and, hset_ne, hl7.lenK]
    refine between_ok m7 kind 0 l.length (by omega) ?_
    intro z2 n9 H9 Z2 g5 g6 g7 g8
    obtain rfl : j = (res l).length := by omega
    rw [← hrl] at g8
    simp (disch := omega) [-hset_if, -Bool.decide_and, hset_ne, g8.sl.lenK]
    exact Fin_id (hk _ _)
end Go.Aw.S46
