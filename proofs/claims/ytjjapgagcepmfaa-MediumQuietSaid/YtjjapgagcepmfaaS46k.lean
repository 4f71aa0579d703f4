/-
  Chapter 46: MediumQuiet.
-/
import Derived.Test.YtjjapgagcepmfaaS46j
namespace Go.Aw.S46
open Go.RowKit Go.Proofs Go.Aw.Tab
attribute [local simp] Frame.cells Heard.cells Slot.cells
set_option linter.unusedSimpArgs false
set_option maxRecDepth 10000
set_option maxHeartbeats 1000000
set_option pp.deepTerms false
set_option pp.deepTerms.threshold 4
set_option pp.maxSteps 1500
variable {w0 : World} {n : Nat} {H : Heap} {K : Value → Nat → Heap → Prop} {k : Nat} {v : Value} {D : Nat → Prop} {hs : List Heard} {l : List Slot}
theorem silence_snoc (hs : List Heard) (h : Heard) : silence (hs ++ [h]) = if h.what = 0 then silence hs + 1 else 0 := by
  simp [silence, sil]
theorem resolve_nil (d : Bool) : resolve [] d = ⟨0, noFrame⟩ := by simp [resolve, noFrame]
theorem resolve_zero (fs : List Frame) (d : Bool) : (resolve fs d).what = 0 → (resolve fs d).frame = noFrame := by
  rcases resolve_cases fs d with ⟨_, e⟩ | ⟨_, _, e⟩ | ⟨_, _, e⟩ <;> simp [e]
theorem silence_len (hs : List Heard) : silence hs ≤ hs.length := Nat.le_trans (silence_le hs) (cnt_le 0 hs)
structure QS where
  i : Nat
  s : Value
  D : Nat → Prop
  hs : List Heard
theorem quiet_ok (hl : SlR ⟨Try.prog, w0⟩ H (fun _ => False) 2 Slot.cells v l) (hq : ∀ x ∈ l, ∀ G, SlR ⟨Try.prog, w0⟩ G (fun _ => False) 4 Frame.cells x.val x.sent) (m : Int)
    {u : Value} {fs : List Frame} {d : Bool} (hf : ∀ G, SlR ⟨Try.prog, w0⟩ G (fun _ => False) 4 Frame.cells u fs)
    (hk : ∀ n' H', K (.bool true) n' H') : ACall ⟨Try.prog, w0⟩ 5 [v, .int .i64 m, .agg #[u, .bool d]] K n H := by
  refine ACall.run Try.func5 rfl Try.ntmps5 Try.results5 (by simp) fun J0 => ?_
  simp (disch := omega) [-hset_if, -Bool.decide_and, hset_ne]
  refine awake_ok _ _ _ _ ?_
  simp (disch := omega) [-hset_if, -Bool.decide_and, hset_ne]
  refine small_ok (hl.frame (fun _ h => h.elim)) hq ?_
  rcases Bool.eq_false_or_eq_true (smallB l) with hsm | hsm
  case inr =>
    simp (disch := omega) [-hset_if, -Bool.decide_and, hset_ne, hsm]
    exact Fin_id (hk _ _)
  simp (disch := omega) [-hset_if, -Bool.decide_and, hset_ne, hsm]
  refine gif_dec (fun hm0 => ?_) (fun hm0 => ?_)
  · simp (disch := omega) [-hset_if, -Bool.decide_and, hset_ne]
    exact Fin_id (hk _ _)
  simp (disch := omega) [-hset_if, -Bool.decide_and, hset_ne]
  refine gif_dec (fun hm20 => ?_) (fun hm20 => ?_)
  · simp (disch := omega) [-hset_if, -Bool.decide_and, hset_ne]
    exact Fin_id (hk _ _)
  have hF := hf H
  simp (disch := omega) [-hset_if, -Bool.decide_and, hset_ne, hF.lenK]
  refine cif_dec (fun h8 => ?_) (fun h8 => ?_)
  · simp (disch := omega) [-hset_if, -Bool.decide_and, hset_ne]
    exact Fin_id (hk _ _)
  simp (disch := omega) [-hset_if, -Bool.decide_and, hset_ne]
  obtain ⟨hb, _⟩ := smallB_true hsm
  refine run_ok (hl.frame (fun _ h => h.elim)) hq hb ?_
  intro s D u0 E n1 H1 p1 p2 p3 p4 p5 p6
  have hrl := @res_len l
  have hbx : H1 n = .cells [u, .bool d] 37 1 := by rw [p2 n (by omega), hset_same]
  simp (disch := omega) [-hset_if, -Bool.decide_and, hset_ne]
  refine silence_ok p5 (by omega) (fun _ h => res_zero h) ?_
  simp (disch := omega) [-hset_if, -Bool.decide_and, hset_ne]
  have hsl := silence_len (res l)
  refine AW.while (σ := QS) (fun s => m.toNat - s.i) (fun s => [(1, .int .i64 m), (5, .pointer (some ⟨new n, 0, none⟩)), (7, .pointer (some ⟨new (n + 1), 0, none⟩)), (9, .int .i64 (silence (res l))), (10, .int .i64 s.i)])
    (fun s n2 H2 => (s.i : Int) ≤ m ∧ n1 ≤ n2 ∧ H2 n = .cells [u, .bool d] 37 1 ∧ Med w0 H2 n2 (n + 1) s.s s.D s.hs ∧ (∀ i, s.D i → n + 1 ≤ i) ∧ s.hs.length = l.length + s.i ∧ (∀ h ∈ s.hs, h.what = 0 → h.frame = noFrame) ∧ silence s.hs = silence (res l) + s.i)
    ⟨0, s, D, res l⟩ ?_ ?_ ?_
  · simp (disch := omega) [-hset_if, -Bool.decide_and, hset_ne]
  · exact ⟨by simp; omega, by omega, hbx, p5, p3, by simp [hrl], fun _ h => res_zero h, rfl⟩
  rintro ⟨i, s, D, hs⟩ n2 H2 ⟨g1, g2, g3, g4, g5, g6, g7, g8⟩
  dsimp only at g1 g2 g3 g4 g5 g6 g7 g8
  simp (disch := omega) [-hset_if, -Bool.decide_and, hset_ne]
  refine cif_dec (fun h => ?_) (fun h => ?_)
  · simp (disch := omega) [-hset_if, -Bool.decide_and, hset_ne]
    refine slot_ok g4 (SlR.nil (D := fun _ => False) (by omega)) (fun _ h => h.elim) (by omega) ?_
    intro s3 n3 H3 D3 q1 q2 q3 q4
    rw [resolve_nil] at q4 ⊢
    have hz3 : ∀ h ∈ hs ++ [⟨0, noFrame⟩], h.what = 0 → h.frame = noFrame := fun x hx => by
      rcases List.mem_append.1 hx with hx | hx
      · exact g7 x hx
      · simp at hx; subst hx; exact fun _ => rfl
    simp (disch := omega) [-hset_if, -Bool.decide_and, hset_ne]
    refine silence_ok q4 (by simp; omega) hz3 ?_
    rw [silence_snoc, if_pos rfl, g8]
    simp (disch := omega) [-hset_if, -Bool.decide_and, hset_ne]
    refine cif_bne (fun hz => ?_) (fun hz => ?_)
    · simp (disch := omega) [-hset_if, -Bool.decide_and, hset_ne]
      refine Next.mk ⟨i + 1, s3, D3, hs ++ [⟨0, noFrame⟩]⟩ (by first | omega | (simp only; omega)) (by simp (disch := omega) [-hset_if, -Bool.decide_and, hset_ne]) ⟨by simp only; omega, by omega, ?_, q4, fun j hj => ?_, by simp only [List.length_append, List.length_cons, List.length_nil]; omega, hz3, ?_⟩
      · rw [q2 n (by omega) (by omega) (fun h => by have := g5 n h; omega), g3]
      · rcases q3 j hj with h | h
        · exact g5 j h
        · omega
      · rw [silence_snoc, if_pos rfl, g8]; rfl
    · omega
  · simp (disch := omega) [-hset_if, -Bool.decide_and, hset_ne, g3]
    refine slot_ok g4 (hf H2) (fun _ h => h.elim) (by omega) ?_
    intro s3 n3 H3 D3 q1 q2 q3 q4
    have hz3 : ∀ h ∈ hs ++ [resolve fs d], h.what = 0 → h.frame = noFrame := fun x hx => by
      rcases List.mem_append.1 hx with hx | hx
      · exact g7 x hx
      · simp at hx; subst hx; exact resolve_zero fs d
    have hF3 := hf H3
    have hb3 : H3 n = .cells [u, .bool d] 37 1 := by rw [q2 n (by omega) (by omega) (fun h => by have := g5 n h; omega), g3]
    have hsil := silence_snoc hs (resolve fs d)
    have hlen3 : (hs ++ [resolve fs d]).length ≤ 1000000 := by simp; omega
    rcases resolve_cases fs d with ⟨c1, c2⟩ | ⟨c1, _, c2⟩ | ⟨c1, _, c2⟩
    · replace hsil : silence (hs ++ [resolve fs d]) = silence (res l) + i + 1 := by rw [hsil, c2, if_pos rfl, g8]
      simp (disch := omega) [-hset_if, -Bool.decide_and, hset_ne, hb3, hF3.lenK, c1]
      refine silence_ok q4 hlen3 hz3 ?_
      rw [hsil]
      simp (disch := omega) [-hset_if, -Bool.decide_and, hset_ne]
      refine gif_beq (fun hz => ?_) (fun hz => ?_)
      · simp (disch := omega) [-hset_if, -Bool.decide_and, hset_ne]
        exact Fin_id (hk _ _)
      · omega
    · replace hsil : silence (hs ++ [resolve fs d]) = 0 := by rw [hsil, c2, if_neg (by simp)]
      simp (disch := omega) [-hset_if, -Bool.decide_and, hset_ne, hb3, hF3.lenK, c1]
      refine silence_ok q4 hlen3 hz3 ?_
      rw [hsil]
      simp (disch := omega) [-hset_if, -Bool.decide_and, hset_ne]
      exact Fin_id (hk _ _)
    · replace hsil : silence (hs ++ [resolve fs d]) = 0 := by rw [hsil, c2, if_neg (by simp)]
      simp (disch := omega) [-hset_if, -Bool.decide_and, hset_ne, hb3, hF3.lenK, c1]
      refine gif_beq (fun hz => ?_) (fun hz => ?_)
      · omega
      simp (disch := omega) [-hset_if, -Bool.decide_and, hset_ne, hb3, hF3.lenK]
      refine gif_dec (fun hp => ?_) (fun hp => ?_)
      · simp (disch := omega) [-hset_if, -Bool.decide_and, hset_ne]
        refine silence_ok q4 hlen3 hz3 ?_
        rw [hsil]
        simp (disch := omega) [-hset_if, -Bool.decide_and, hset_ne]
        exact Fin_id (hk _ _)
      · omega
end Go.Aw.S46
