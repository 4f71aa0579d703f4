/-
  Chapter 46: the methods of a medium.
-/
import Derived.Test.YtjjapgagcepmfaaS46w
namespace Go.Aw.S46
open Go.RowKit Go.Proofs Go.Aw.Tab
attribute [local simp] Frame.cells Heard.cells
set_option linter.unusedSimpArgs false
set_option maxRecDepth 10000
set_option maxHeartbeats 1000000
set_option pp.deepTerms false
set_option pp.deepTerms.threshold 4
set_option pp.maxSteps 1500
variable {w0 : World} {n : Nat} {H : Heap} {K : Value → Nat → Heap → Prop}
def cnt (q : Int) (hs : List Heard) : Nat := (hs.filter fun h => h.what == q).length
/-- Object k is a medium with the history hs; v is its slice, which leads to D. -/
structure Med (w0 : World) (H : Heap) (n k : Nat) (v : Value) (D : Nat → Prop) (hs : List Heard) : Prop where
  obj : H k = .cells [v, .int .i64 (cnt 0 hs), .int .i64 (cnt 1 hs), .int .i64 (cnt 2 hs)] 57 1
  own : OwR ⟨Try.prog, w0⟩ H n D 27 5 Heard.cells v hs
  lt : k < n
  apart : ¬ D k
theorem Med.frame {H' : Heap} {k m : Nat} {v : Value} {D : Nat → Prop} {hs : List Heard} (h : Med w0 H n k v D hs) (hm : n ≤ m) (hk : H' k = H k) (hD : ∀ i, D i → H' i = H i) : Med w0 H' m k v D hs :=
  ⟨by rw [hk, h.obj], h.own.frame hm hD, Nat.lt_of_lt_of_le h.lt hm, h.apart⟩
theorem cnt_le (q : Int) (hs : List Heard) : cnt q hs ≤ hs.length := List.length_filter_le _ _
theorem cnt_snoc (q : Int) (hs : List Heard) (h : Heard) : cnt q (hs ++ [h]) = cnt q hs + if h.what = q then 1 else 0 := by
  unfold cnt
  rw [List.filter_append]
  by_cases e : h.what = q <;> simp [List.filter_cons, e]
theorem new_ok (hk : ∀ H', (∀ i, i < n → H' i = H i) → Med w0 H' (n + 1) n (.slice none 0 0) (fun _ => False) [] → K (.pointer (some ⟨new n, 0, none⟩)) (n + 1) H') : ACall ⟨Try.prog, w0⟩ 21 [] K n H := by
  refine ACall.run Try.func21 rfl Try.ntmps21 Try.results21 (by simp) fun J0 => ?_
  simp (disch := omega) [-hset_if, -Bool.decide_and, hset_ne]
  refine Fin_id (hk _ ?_ ?_)
  · exact (fun i hi => by simp (disch := omega) only [hset_ne])
  · exact ⟨by simp [cnt], OwR.nil (by omega), by omega, fun h => h⟩
theorem slot_ok {k : Nat} {v u : Value} {D E : Nat → Prop} {hs : List Heard} {fs : List Frame} {d : Bool} (hm : Med w0 H n k v D hs) (hf : SlR ⟨Try.prog, w0⟩ H E 4 Frame.cells u fs) (hE : ∀ i, E i → i < n ∧ i ≠ k ∧ ¬ D i) (hb : hs.length ≤ 1000000)
    (hk : ∀ v' n' H' D', n ≤ n' → (∀ i, i < n → i ≠ k → ¬ D i → H' i = H i) → (∀ i, D' i → D i ∨ n ≤ i) → Med w0 H' n' k v' D' (hs ++ [resolve fs d]) → K (.agg (resolve fs d).cells.toArray) n' H') :
    ACall ⟨Try.prog, w0⟩ 15 [.pointer (some ⟨new k, 0, none⟩), u, .bool d] K n H := by
  have hlt := hm.lt
  have hD := hm.own.lt
  have ho := hm.obj
  refine ACall.run Try.func15 rfl Try.ntmps15 Try.results15 (by simp) fun J0 => ?_
  simp (disch := omega) [-hset_if, -Bool.decide_and, hset_ne]
  refine resolve_ok (hf.frame (fun i hi => hset_ne (by have := (hE i hi).1; omega) _ _)) (fun i hi => by have := (hE i hi).1; omega) ?_
  intro n1 H1 q1 q2
  generalize hh : resolve fs d = h at *
  simp (disch := omega) [-hset_if, -Bool.decide_and, hset_ne]
  refine AW.draw (X := ⟨_, 44, _, _⟩) (id := 2) mixed (.take 0 <| .take 1 <| .take 2 <| .take 3 <| .take 4 <| .take 5 <| .each 6 [0, 1, 2, 3, 4] (.each 7 [0] (.take 8 <| .take 9 <| .each 10 [] (.done) <| .stop) <| .stop) <| .stop) (by kernel_rfl) ?_
  simp (disch := omega) [-hset_if, -Bool.decide_and, hset_ne, q2, ho]
  have hm1 : OwR ⟨Try.prog, w0⟩ (hset n1 (.cells h.cells 27 1) H1) (n1 + 1) D 27 5 Heard.cells v hs := hm.own.frame (by omega) (fun i hi => by have := hD i hi; rw [hset_ne (by omega), q2 i (by omega), hset_ne (by omega)])
  refine hm1.push elemS33 zero27 rfl h rfl rfl rfl (by omega) (by omega) ?_
  intro v2 n2 H2 D2 p1 p2 p3 p4 p5
  have ek : H2 k = H k := by rw [p3 k (by omega) hm.apart, hset_ne (by omega), q2 k (by omega), hset_ne (by omega)]
  rw [ho] at ek
  simp (disch := omega) [-hset_if, -Bool.decide_and, hset_ne, ek, p5.sl.cells, p5.sl.one]
  have c0 := cnt_le 0 hs
  have c1 := cnt_le 1 hs
  have c2 := cnt_le 2 hs
  have en : H2 n1 = .cells h.cells 27 1 := by rw [p3 n1 (by omega) (fun h => by have := hD n1 h; omega), hset_same]
  have em : H2 n = .cells [.int .i64 0, .int .i64 0, .int .i64 0, .int .i64 0, .string ⟨#[]⟩] 27 1 := by
    rw [p3 n (by omega) (fun h => by have := hD n h; omega), hset_ne (by omega), q2 n (by omega), hset_same]
  have hw : h.what = 0 ∨ h.what = 1 ∨ h.what = 2 := by
    rw [← hh]; unfold resolve; split
    · exact .inl rfl
    · split
      · exact .inr (.inl rfl)
      · exact .inr (.inr rfl)
  have fin : ∀ (r : Value) (n' : Nat) (H' : Heap) (m : Nat) (o : AObj), r = .agg h.cells.toArray → n2 = n' → H' = hset m o (hset k (.cells [v2, .int .i64 (cnt 0 (hs ++ [h])), .int .i64 (cnt 1 (hs ++ [h])), .int .i64 (cnt 2 (hs ++ [h]))] 57 1) H2) → m = n →
      Fin n K r n' H' := by
    intro r n' H' m o e0 e1 e2 e3
    subst e0 e1 e2 e3
    refine Fin_id (hk v2 n2 _ D2 (by omega) (fun i hi hik hDi => ?_) (fun i hi => ?_) ?_)
    · rw [hset_ne (by omega), hset_ne hik, p3 i (by omega) hDi, hset_ne (by omega), q2 i (by omega), hset_ne (by omega)]
    · rcases p4 i hi with h | h
      · exact .inl h
      · exact .inr (by omega)
    · have hD2 : ∀ i, D2 i → i ≠ k ∧ i ≠ m := fun i hi => by
        rcases p4 i hi with h | h
        · have := hD i h; exact ⟨fun e => hm.apart (e ▸ h), by omega⟩
        · omega
      exact ⟨by rw [hset_ne (by omega), hset_same], p5.frame (Nat.le_refl _) (fun i hi => by have := hD2 i hi; rw [hset_ne this.2, hset_ne this.1]), by omega, fun h => (hD2 k h).1 rfl⟩
  refine AW.rounds 4 ?_
  rcases hw with hw | hw | hw
  · simp (disch := omega) [-hset_if, -Bool.decide_and, hset_ne, en, em, hw]
    refine AW.draw (X := ⟨_, 44, _, _⟩) (id := 7) mixed (.take 0 <| .take 1 <| .take 2 <| .take 3 <| .take 4 <| .take 5 <| .take 6 <| .take 7 <| .take 8 <| .take 9 <| .each 10 [] (.done) <| .stop) (by kernel_rfl) ?_
    simp (disch := omega) [-hset_if, -Bool.decide_and, hset_ne, en, em, hw]
    refine fin _ _ _ n (.cells h.cells 27 1) ?_ rfl ?_ rfl
    · simp [hw]
    · simp [cnt_snoc, hw]
  · simp (disch := omega) [-hset_if, -Bool.decide_and, hset_ne, en, em, hw]
    refine AW.draw (X := ⟨_, 44, _, _⟩) (id := 7) mixed (.take 0 <| .take 1 <| .take 2 <| .take 3 <| .take 4 <| .take 5 <| .take 6 <| .take 7 <| .take 8 <| .take 9 <| .each 10 [] (.done) <| .stop) (by kernel_rfl) ?_
    simp (disch := omega) [-hset_if, -Bool.decide_and, hset_ne, en, em, hw]
    refine fin _ _ _ n (.cells h.cells 27 1) ?_ rfl ?_ rfl
    · simp [hw]
    · simp [cnt_snoc, hw]
  · simp (disch := omega) [-hset_if, -Bool.decide_and, hset_ne, en, em, hw]
    refine AW.draw (X := ⟨_, 44, _, _⟩) (id := 7) mixed (.take 0 <| .take 1 <| .take 2 <| .take 3 <| .take 4 <| .take 5 <| .take 6 <| .take 7 <| .take 8 <| .take 9 <| .each 10 [] (.done) <| .stop) (by kernel_rfl) ?_
    simp (disch := omega) [-hset_if, -Bool.decide_and, hset_ne, en, em, hw]
    refine fin _ _ _ n (.cells h.cells 27 1) ?_ rfl ?_ rfl
    · simp [hw]
    · simp [cnt_snoc, hw]
end Go.Aw.S46
