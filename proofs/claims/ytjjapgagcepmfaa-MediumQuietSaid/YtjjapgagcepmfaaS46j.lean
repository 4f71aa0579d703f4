/-
  Chapter 46: MediumRemembers.
-/
import Derived.Test.YtjjapgagcepmfaaS46i
namespace Go.Aw.S46
open Go.RowKit Go.Proofs Go.Aw.Tab
attribute [local simp] Frame.cells Heard.cells Slot.cells
set_option linter.unusedSimpArgs false
set_option maxRecDepth 10000
set_option maxHeartbeats 1000000
set_option pp.deepTerms false
set_option pp.deepTerms.threshold 4
set_option pp.maxSteps 1500
variable {w0 : World} {n : Nat} {H : Heap} {K : Value → Nat → Heap → Prop} {k : Nat} {v : Value} {D : Nat → Prop} {hs : List Heard} {l : List Slot}
theorem res_what {h : Heard} (hh : h ∈ res l) : h.what = 0 ∨ h.what = 1 ∨ h.what = 2 := by
  obtain ⟨x, _, rfl⟩ := List.mem_map.1 hh
  rcases resolve_cases x.sent x.damaged with ⟨_, e⟩ | ⟨_, _, e⟩ | ⟨_, _, e⟩ <;> simp [e]
theorem res_zero {h : Heard} (hh : h ∈ res l) : h.what = 0 → h.frame = noFrame := by
  obtain ⟨x, _, rfl⟩ := List.mem_map.1 hh
  rcases resolve_cases x.sent x.damaged with ⟨_, e⟩ | ⟨_, _, e⟩ | ⟨_, _, e⟩ <;> simp [e]
theorem cnt_sum (hw : ∀ h ∈ hs, h.what = 0 ∨ h.what = 1 ∨ h.what = 2) : cnt 0 hs + cnt 1 hs + cnt 2 hs = hs.length := by
  induction hs with
  | nil => rfl
  | cons h r ih =>
    have := ih fun x hx => hw x (by simp [hx])
    have hh := hw h (by simp)
    have e : ∀ q, cnt q (h :: r) = cnt q r + if h.what = q then 1 else 0 := fun q => by
      unfold cnt
      by_cases e : h.what = q <;> simp [List.filter_cons, e]
    rw [e, e, e, List.length_cons]
    rcases hh with e | e | e <;> simp [e] <;> omega
theorem sil_le : ∀ r : List Heard, sil r ≤ cnt 0 r
  | [] => Nat.le_refl _
  | h :: r => by
    have := sil_le r
    unfold cnt at *
    simp only [sil, List.filter_cons]
    by_cases e : h.what = 0 <;> simp [e] <;> omega
theorem silence_le (hs : List Heard) : silence hs ≤ cnt 0 hs := by
  have := sil_le hs.reverse
  unfold cnt at *
  rw [List.filter_reverse, List.length_reverse] at this
  exact this
theorem remembers_ok (hl : SlR ⟨Try.prog, w0⟩ H (fun _ => False) 2 Slot.cells v l) (hq : ∀ x ∈ l, ∀ G, SlR ⟨Try.prog, w0⟩ G (fun _ => False) 4 Frame.cells x.val x.sent)
    (hk : ∀ n' H', K (.bool true) n' H') : ACall ⟨Try.prog, w0⟩ 6 [v] K n H := by
  refine ACall.run Try.func6 rfl Try.ntmps6 Try.results6 (by simp) fun J0 => ?_
  simp (disch := omega) [-hset_if, -Bool.decide_and, hset_ne]
  refine awake_ok _ _ _ _ ?_
  simp (disch := omega) [-hset_if, -Bool.decide_and, hset_ne]
  refine small_ok hl hq ?_
  simp (disch := omega) [-hset_if, -Bool.decide_and, hset_ne]
  refine cif_var (fun hsm => ?_) (fun hsm => ?_)
  · simp (disch := omega) [-hset_if, -Bool.decide_and, hset_ne]
    obtain ⟨hb, h8⟩ := smallB_true hsm
    refine run_ok hl hq hb ?_
    intro s D u E n1 H1 p1 p2 p3 p4 p5 p6
    have hl1 : SlR ⟨Try.prog, w0⟩ H1 (fun _ => False) 2 Slot.cells v l := hl.frame (fun _ h => h.elim)
    have hrl := @res_len l
    have hsl := silence_le (res l)
    have hcs := cnt_sum (hs := res l) (fun _ h => res_what h)
    simp (disch := omega) [-hset_if, -Bool.decide_and, hset_ne]
    refine slots_ok p5 ?_
    simp (disch := omega) [-hset_if, -Bool.decide_and, hset_ne, hl1.lenK, hrl]
    refine AW.while (σ := Nat) (fun j => l.length - j) (fun j => [(0, v), (3, .pointer (some ⟨new n, 0, none⟩)), (4, u), (5, .int .i64 j)]) (fun j n2 H2 => j ≤ l.length ∧ n1 ≤ n2 ∧ (∀ i, i < n1 → H2 i = H1 i)) 0 ?_ ?_ ?_
    · simp (disch := omega) [-hset_if, -Bool.decide_and, hset_ne]
    · exact ⟨by omega, by omega, fun _ _ => rfl⟩
    rintro j n2 H2 ⟨g1, g2, g3⟩
    have hs2 : SlR ⟨Try.prog, w0⟩ H2 E 5 Heard.cells u (res l) := p6.sl.frame (fun i hi => g3 i (p6.lt i hi))
    have hm2 : Med w0 H2 n2 n s D (res l) := p5.frame g2 (g3 n p5.lt) (fun i hi => g3 i (p5.own.lt i hi))
    have hE := p6.lt
    simp (disch := omega) [-hset_if, -Bool.decide_and, hset_ne, hs2.lenK, hrl]
    refine cif_dec (fun h => ?_) (fun h => ?_)
    · simp (disch := omega) [-hset_if, -Bool.decide_and, hset_ne]
      refine heard_ok hm2 j ?_
      intro n3 H3 q1 q2
      rw [if_pos (by omega)]
      have hs3 : SlR ⟨Try.prog, w0⟩ H3 E 5 Heard.cells u (res l) := hs2.frame (fun i hi => q2 i (by have := hE i hi; omega))
      simp (disch := omega) [-hset_if, -Bool.decide_and, hset_ne]
      refine AW.draw (X := ⟨_, 70, _, _⟩) (id := 12) mixed (.take 0 <| .take 1 <| .take 2 <| .take 3 <| .take 4 <| .take 5 <| .take 6 <| .take 7 <| .take 8 <| .take 9 <| .done) (by kernel_rfl) ?_
      simp (disch := omega) [-hset_if, -Bool.decide_and, hset_ne, hs3.ix elemS33, hs3.fresh0 hE, hs3.load0 shp27]
      refine Next.mk (j + 1) (by first | omega | (simp only; omega)) (by simp (disch := omega) [-hset_if, -Bool.decide_and, hset_ne]) ⟨by omega, by omega, fun i hi => by simp (disch := omega) [-hset_if, -Bool.decide_and, hset_ne, q2, g3]⟩
    · have hl2 : SlR ⟨Try.prog, w0⟩ H2 (fun _ => False) 2 Slot.cells v l := hl.frame (fun _ h => h.elim)
      simp (disch := omega) [-hset_if, -Bool.decide_and, hset_ne]
      refine counts_ok hm2 ?_
      intro n3 H3 q1 q2
      have hm3 : Med w0 (hset n3 (.cells [.int .i64 (cnt 0 (res l)), .int .i64 (cnt 1 (res l)), .int .i64 (cnt 2 (res l))] 43 1) H3) (n3 + 1) n s D (res l) :=
        hm2.frame (by omega) (by rw [hset_ne (by have := hm2.lt; omega), q2 n hm2.lt]) (fun i hi => by have := hm2.own.lt i hi; rw [hset_ne (by omega), q2 i this])
      have hl3 : SlR ⟨Try.prog, w0⟩ H3 (fun _ => False) 2 Slot.cells v l := hl.frame (fun _ h => h.elim)
      simp (disch := omega) [-hset_if, -Bool.decide_and, hset_ne]
      refine AW.draw (X := ⟨_, 70, _, _⟩) (id := 15) mixed (.take 0 <| .take 1 <| .take 2 <| .take 3 <| .take 4 <| .take 5 <| .take 6 <| .take 7 <| .take 8 <| .take 9 <| .take 10 <| .take 11 <| .take 12 <| .take 14 <| .take 15 <| .each 13 [14, 15] (.take 16 <| .take 17 <| .take 18 <| .done) <| .stop) (by kernel_rfl) ?_
      simp (disch := omega) [-hset_if, -Bool.decide_and, hset_ne, hl3.lenK]
      refine gif_beq (fun he => ?_) (fun he => ?_)
      · simp (disch := omega) [-hset_if, -Bool.decide_and, hset_ne]
        refine silence_ok hm3 (by omega) (fun _ h => res_zero h) ?_
        simp (disch := omega) [-hset_if, -Bool.decide_and, hset_ne]
        refine Fin_id ?_
        rw [decide_eq_true hsl]
        exact hk _ _
      · omega
  · simp (disch := omega) [-hset_if, -Bool.decide_and, hset_ne]
    exact Fin_id (hk _ _)
end Go.Aw.S46
