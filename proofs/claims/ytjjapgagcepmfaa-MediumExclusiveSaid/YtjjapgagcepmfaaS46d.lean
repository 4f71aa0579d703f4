/-
  Chapter 46: what a medium is asked, and the reference.
-/
import Derived.Test.YtjjapgagcepmfaaS46c
namespace Go.Aw.S46
open Go.RowKit Go.Proofs Go.Aw.Tab
attribute [local simp] Frame.cells Heard.cells
set_option linter.unusedSimpArgs false
set_option maxRecDepth 10000
set_option maxHeartbeats 1000000
set_option pp.deepTerms false
set_option pp.deepTerms.threshold 4
set_option pp.maxSteps 1500
variable {w0 : World} {n : Nat} {H : Heap} {K : Value → Nat → Heap → Prop} {k : Nat} {v : Value} {D : Nat → Prop} {hs : List Heard}
theorem slots_ok (hm : Med w0 H n k v D hs) (hk : K (.int .i64 hs.length) n H) : ACall ⟨Try.prog, w0⟩ 16 [.pointer (some ⟨new k, 0, none⟩)] K n H := by
  refine ACall.run Try.func16 rfl Try.ntmps16 Try.results16 (by simp) fun J0 => ?_
  simp (disch := omega) [-hset_if, -Bool.decide_and, hset_ne, hm.obj, hm.own.sl.lenK]
  refine Fin_id hk
def noFrame : Frame := ⟨0, 0, 0, ⟨#[]⟩⟩
theorem heard_ok (hm : Med w0 H n k v D hs) (z : Int)
    (hk : ∀ n' H', n ≤ n' → (∀ i, i < n → H' i = H i) → K (if 0 ≤ z ∧ z < hs.length then .tuple #[.agg (at_ hs z).cells.toArray, .int .i64 0] else .tuple #[.agg (Heard.mk 0 noFrame).cells.toArray, .int .i64 6]) n' H') :
    ACall ⟨Try.prog, w0⟩ 17 [.pointer (some ⟨new k, 0, none⟩), .int .i64 z] K n H := by
  have hlt := hm.lt
  refine ACall.run Try.func17 rfl Try.ntmps17 Try.results17 (by simp) fun J0 => ?_
  simp (disch := omega) [-hset_if, -Bool.decide_and, hset_ne]
  refine gif_dec (fun h => ?_) (fun h => ?_)
  · simp (disch := omega) [-hset_if, -Bool.decide_and, hset_ne, hm.obj]
    refine Fin_id ?_
    simpa [noFrame, show ¬ 0 ≤ z by omega] using hk _ _ (by omega) (fun i hi => by simp (disch := omega) only [hset_ne])
  · simp (disch := omega) [-hset_if, -Bool.decide_and, hset_ne, hm.obj, hm.own.sl.lenK]
    refine cif_dec (fun h2 => ?_) (fun h2 => ?_)
    · simp (disch := omega) [-hset_if, -Bool.decide_and, hset_ne, hm.obj]
      refine Fin_id ?_
      simpa [noFrame, show ¬ z < hs.length by omega] using hk _ _ (by omega) (fun i hi => by simp (disch := omega) only [hset_ne])
    · simp (disch := omega) [-hset_if, -Bool.decide_and, hset_ne, hm.obj, hm.own.sl.ix elemS33, hm.own.sl.fresh0 hm.own.lt, hm.own.sl.load0 shp27]
      refine Fin_id ?_
      simpa [show z < hs.length by omega, show 0 ≤ z by omega] using hk _ _ (by omega) (fun i hi => by simp (disch := omega) only [hset_ne])
theorem counts_ok (hm : Med w0 H n k v D hs) (hk : ∀ n' H', n ≤ n' → (∀ i, i < n → H' i = H i) → K (.agg #[.int .i64 (cnt 0 hs), .int .i64 (cnt 1 hs), .int .i64 (cnt 2 hs)]) n' H') :
    ACall ⟨Try.prog, w0⟩ 18 [.pointer (some ⟨new k, 0, none⟩)] K n H := by
  have hlt := hm.lt
  refine ACall.run Try.func18 rfl Try.ntmps18 Try.results18 (by simp) fun J0 => ?_
  simp (disch := omega) [-hset_if, -Bool.decide_and, hset_ne, hm.obj]
  refine Fin_id (hk _ _ (by omega) (fun i hi => by simp (disch := omega) only [hset_ne]))
def sil : List Heard → Nat
  | [] => 0
  | h :: t => if h.what = 0 then sil t + 1 else 0
def silence (hs : List Heard) : Nat := sil hs.reverse
theorem sil_step {hs : List Heard} {j : Nat} (h : j < hs.length) : sil (hs.reverse.drop j) = if (at_ hs ((hs.length : Int) - 1 - j)).what = 0 then sil (hs.reverse.drop (j + 1)) + 1 else 0 := by
  rw [List.drop_eq_getElem_cons (by simpa using h), List.getElem_reverse, at_lt (by omega) (by omega)]
  simp only [sil]
  have : hs.length - 1 - j = ((hs.length : Int) - 1 - j).toNat := by omega
  simp only [this]
theorem silence_ok (hm : Med w0 H n k v D hs) (hb : hs.length ≤ 1000000) (hz : ∀ h ∈ hs, h.what = 0 → h.frame = noFrame) (hk : K (.int .i64 (silence hs)) n H) : ACall ⟨Try.prog, w0⟩ 14 [.pointer (some ⟨new k, 0, none⟩)] K n H := by
  have hlt := hm.lt
  refine ACall.run Try.func14 rfl Try.ntmps14 Try.results14 (by simp) fun J0 => ?_
  simp (disch := omega) [-hset_if, -Bool.decide_and, hset_ne]
  refine AW.while (σ := Nat) (fun j => hs.length - j) (fun j => [(0, .pointer (some ⟨new k, 0, none⟩)), (3, .int .i64 j)]) (fun j n1 H1 => j ≤ hs.length ∧ n1 = n ∧ H1 = H ∧ silence hs = j + sil (hs.reverse.drop j)) 0 ?_ ?_ ?_
  · simp (disch := omega) [-hset_if, -Bool.decide_and, hset_ne]
  · exact ⟨by omega, rfl, rfl, by simp [silence]⟩
  rintro j n1 H1 ⟨g1, rfl, rfl, g4⟩
  simp (disch := omega) [-hset_if, -Bool.decide_and, hset_ne]
  refine AW.draw (X := ⟨_, 32, _, _⟩) (id := 2) mixed (.take 0 <| .take 1 <| .take 2 <| .take 3 <| .take 4 <| .take 5 <| .take 6 <| .take 7 <| .take 8 <| .take 9 <| .take 10 <| .take 11 <| .take 12 <| .take 13 <| .take 14 <| .take 15 <| .take 16 <| .take 17 <| .take 18 <| .take 19 <| .take 20 <| .take 21 <| .take 22 <| .take 23 <| .take 24 <| .done) (by kernel_rfl) ?_
  simp (disch := omega) [-hset_if, -Bool.decide_and, hset_ne, hm.obj, hm.own.sl.lenK]
  refine gif_dec (fun h => ?_) (fun h => ?_)
  · simp (disch := omega) [-hset_if, -Bool.decide_and, hset_ne, hm.obj, hm.own.sl.lenK, hm.own.sl.ix elemS33, hm.own.sl.load0 shp27]
    have hst := sil_step h
    have he : at_ hs ((hs.length : Int) - 1 - j) ∈ hs := by rw [at_lt (by omega) (by omega)]; exact List.getElem_mem _
    have hx := hz _ he
    refine cif_dec (fun h2 => ?_) (fun h2 => ?_)
    · rw [if_pos h2.1] at hst
      simp (disch := omega) [-hset_if, -Bool.decide_and, hset_ne]
      refine Next.mk (j + 1) (by first | omega | (simp only; omega)) ?_ ⟨by omega, rfl, rfl, by omega⟩
      simp (disch := omega) [-hset_if, -Bool.decide_and, hset_ne]
    · rw [if_neg (fun e => h2 ⟨e, by have := hx e; simp [this, noFrame]⟩)] at hst
      simp (disch := omega) [-hset_if, -Bool.decide_and, hset_ne]
      refine Fin_id ?_
      rw [g4, hst] at hk
      exact hk
  · simp (disch := omega) [-hset_if, -Bool.decide_and, hset_ne]
    refine Fin_id ?_
    rw [g4, show hs.reverse.drop j = [] from List.drop_eq_nil_of_le (by rw [List.length_reverse]; omega)] at hk
    exact hk
theorem refSilence_ok (hs' : SlR ⟨Try.prog, w0⟩ H D 5 Heard.cells v hs) (hb : hs.length ≤ 1000000) (hk : K (.int .i64 (silence hs)) n H) : ACall ⟨Try.prog, w0⟩ 24 [v] K n H := by
  refine ACall.run Try.func24 rfl Try.ntmps24 Try.results24 (by simp) fun J0 => ?_
  simp (disch := omega) [-hset_if, -Bool.decide_and, hset_ne, hs'.lenK]
  refine AW.while (σ := Nat) (fun j => hs.length - j) (fun j => [(0, v), (3, .int .i64 j), (4, .int .i64 (hs.length - 1 - j))]) (fun j n1 H1 => j ≤ hs.length ∧ n1 = n ∧ H1 = H ∧ silence hs = j + sil (hs.reverse.drop j)) 0 ?_ ?_ ?_
  · simp (disch := omega) [-hset_if, -Bool.decide_and, hset_ne]
  · exact ⟨by omega, rfl, rfl, by simp [silence]⟩
  rintro j n1 H1 ⟨g1, rfl, rfl, g4⟩
  simp (disch := omega) [-hset_if, -Bool.decide_and, hset_ne]
  refine gif_dec (fun h => ?_) (fun h => ?_)
  · have hst := sil_step (show j < hs.length by omega)
    simp (disch := omega) [-hset_if, -Bool.decide_and, hset_ne, hs'.ix elemS33, hs'.load shp3, hs'.load0 shp3]
    refine cif_beq (fun h2 => ?_) (fun h2 => ?_)
    · rw [if_pos h2] at hst
      simp (disch := omega) [-hset_if, -Bool.decide_and, hset_ne]
      refine Next.mk (j + 1) (by first | omega | (simp only; omega)) ?_ ⟨by omega, rfl, rfl, by omega⟩
      simp (disch := omega) [-hset_if, -Bool.decide_and, hset_ne]
      omega
    · rw [if_neg h2] at hst
      simp (disch := omega) [-hset_if, -Bool.decide_and, hset_ne]
      refine Fin_id ?_
      rw [g4, hst] at hk
      exact hk
  · simp (disch := omega) [-hset_if, -Bool.decide_and, hset_ne]
    refine Fin_id ?_
    rw [g4, show hs.reverse.drop j = [] from List.drop_eq_nil_of_le (by rw [List.length_reverse]; omega)] at hk
    exact hk
end Go.Aw.S46
