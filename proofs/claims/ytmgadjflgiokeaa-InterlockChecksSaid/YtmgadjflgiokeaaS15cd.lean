/-
  Chapter 15: slices.Sort, slices.Compact and slices.Clone of strings.
-/
import Derived.Test.YtmgadjflgiokeaaS15cc
import Derived.Test.YtmgadjflgiokeaaS15sh
import Derived.Test.YtmgadjflgiokeaaAw16
namespace Go.Aw.S15
open Go.RowKit Go.Proofs Go.Aw.Tab
set_option linter.unusedSimpArgs false
set_option linter.unusedVariables false
set_option maxRecDepth 10000
set_option maxHeartbeats 1000000
set_option pp.deepTerms false
set_option pp.deepTerms.threshold 4
set_option pp.maxSteps 1500
attribute [local simp] Gr.cells Pt.cells strC
variable {w0 : World} {n : Nat} {H : Heap} {K : Value → Nat → Heap → Prop} {D E : Nat → Prop} {gs : List Gr} {pts : List Pt}
def bytesOf (s : ByteArray) : List UInt8 := s.data.toList
def ofBytes (l : List UInt8) : ByteArray := ⟨l.toArray⟩
theorem of_bytes (l : List UInt8) : bytesOf (ofBytes l) = l := rfl
theorem bytes_of (s : ByteArray) : ofBytes (bytesOf s) = s := rfl
def sortS (xs : List ByteArray) : List ByteArray := ((xs.map bytesOf).mergeSort fun x y => decide (x ≤ y)).map ofBytes
theorem sortS_len (xs : List ByteArray) : (sortS xs).length = xs.length := by unfold sortS; rw [List.length_map, List.length_mergeSort, List.length_map]
theorem sortS_ok {v : Value} {xs : List ByteArray} (ho : OwR ⟨Try.prog, w0⟩ H n E 9 1 strC v xs) (hl : xs.length < 4611686018427387904)
    (hk : ∀ H', (∀ i, ¬ E i → H' i = H i) → OwR ⟨Try.prog, w0⟩ H' n E 9 1 strC v (sortS xs) → K (.tuple #[]) n H') : ACall ⟨Try.prog, w0⟩ 81 [v] K n H := by
  refine ACall.sorted (α := List UInt8) (g := strC) (enc := encStr) (h := bytesOf) (h' := ofBytes) (fun _ => by rfl) (fun l => l.mergeSort fun x y => decide (x ≤ y)) (fun l => List.length_mergeSort _) (fun blk cap zs w h1 h2 h3 => Try.slices_Sort_string blk 0 cap zs w h1 h2 h3) (fun w => ?_) (by simp) (fun y => by rfl) of_bytes ho hl hk
  refine (Try.slices_Sort_string_none none 0 w).mono ?_
  rintro e w' ⟨h1, h2⟩
  exact ⟨h1, 0, #[], by rw [h2, Sort.grow_empty]; rfl⟩
/-- Equal neighbours once. -/
def compS : List ByteArray → List ByteArray
  | [] => []
  | [x] => [x]
  | x :: y :: r => if x = y then compS (y :: r) else x :: compS (y :: r)
theorem compS_snoc (x y : ByteArray) : ∀ l : List ByteArray, compS (l ++ [x, y]) = if x = y then compS (l ++ [x]) else compS (l ++ [x]) ++ [y]
  | [] => by by_cases h : x = y <;> simp [compS, h]
  | [a] => by
    by_cases h : x = y <;> by_cases h2 : a = x <;> simp [compS, h, h2]
    all_goals (try subst h2); simp_all [compS]
  | a :: b :: l => by
    have ih := compS_snoc x y (b :: l)
    simp only [List.cons_append, compS] at ih ⊢
    rw [ih]
    by_cases h : x = y <;> by_cases h2 : a = b <;> simp [h, h2]
theorem compS_next {xs : List ByteArray} {m : Nat} (h : m + 1 < xs.length) : compS (xs.take (m + 2)) = if at_ xs (m : Int) = at_ xs ((m + 1 : Nat) : Int) then compS (xs.take (m + 1)) else compS (xs.take (m + 1)) ++ [at_ xs ((m + 1 : Nat) : Int)] := by
  rw [take_next (j := m + 1) h, take_next (j := m) (by omega), List.append_assoc]
  exact compS_snoc _ _ _
theorem IsTail.sl {α : Type} {C : Ctx} {T sz : Nat} {f : α → List Value} {v v' : Value} {ys : List α} {j : Nat} (h : OwR C H n D T sz f v ys) (ht : IsTail sz v j v') (hj : j < ys.length) : SlR C H D sz f v' (ys.drop j) := by
  obtain ⟨A0, l0, c0, hv, ht⟩ := ht
  obtain ⟨A, c, rfl, h1, h2, h3, h4⟩ := h.sl.shape
  simp only [Value.slice.injEq] at hv
  obtain ⟨rfl, rfl, rfl⟩ := hv
  have hl : (ys.drop j).length = ys.length - j := by simp
  rcases ht with ⟨rfl, rfl⟩ | rfl | ⟨e, _⟩
  · rw [List.drop_zero]; exact h.sl
  · refine ⟨h.pos, fun x hx => h.flen x (List.mem_of_mem_drop hx), A.map fun a => a.add (j * sz), c - j, by rw [hl], by omega, fun hne => ?_, fun hn => ?_, fun a ha => ?_⟩
    · have := h2 (fun e => hne (by simp [e]))
      simpa using this
    · have := h3 (by simpa using hn); omega
    · obtain ⟨a', rfl, rfl⟩ := Option.map_eq_some_iff.1 ha
      obtain ⟨g1, g2⟩ := h4 a' rfl
      refine ⟨by rw [add_block]; exact g1, fun i hi => ?_⟩
      rw [Addr.add_add, ← Nat.add_mul, g2 (j + i) (by rw [hl] at hi; omega)]
      simp
  · omega
theorem at_drop {α : Type} [Inhabited α] {xs : List α} {j i : Nat} (h : j + i < xs.length) : at_ (xs.drop j) (i : Int) = at_ xs ((j + i : Nat) : Int) := by
  rw [at_nat (by simp; omega), at_nat h, List.getElem_drop]
theorem at_of_drop {α : Type} [Inhabited α] {xs ys : List α} {j i : Nat} (h : ys.drop j = xs.drop j) (h1 : j + i < ys.length) (h2 : j + i < xs.length) : at_ ys ((j + i : Nat) : Int) = at_ xs ((j + i : Nat) : Int) := by
  rw [← at_drop h1, h, at_drop h2]
structure CpI (H2 : Heap) (w0 : World) (n : Nat) (E : Nat → Prop) (v : Value) (xs : List ByteArray) (m : Nat) (s : Nat × Nat × List ByteArray) : Prop where
  l2 : OwR ⟨Try.prog, w0⟩ H2 n E 9 1 strC v s.2.2
  l3 : s.2.2.length = xs.length
  l4 : s.2.1 ≤ m + 1 + s.1
  l5 : m + 1 + s.1 < xs.length
  l6 : s.2.2.drop (m + 1 + s.1) = xs.drop (m + 1 + s.1)
  l7 : s.2.2.take s.2.1 = compS (xs.take (m + 2 + s.1))
theorem Compact_ok {v : Value} {xs : List ByteArray} (hs : OwR ⟨Try.prog, w0⟩ H n E 9 1 strC v xs) (hb : xs.length < 4611686018427387904)
    (hk : ∀ v' H', (∀ i, ¬ E i → H' i = H i) → OwR ⟨Try.prog, w0⟩ H' n E 9 1 strC v' (compS xs) → K v' n H') : ACall ⟨Try.prog, w0⟩ 82 [v] K n H := by
  refine ACall.run Try.func82 rfl Try.ntmps82 Try.results82 (by simp) fun J0 => ?_
  simp (disch := omega) [-hset_if, -Bool.decide_and, hset_ne, hs.sl.lenK]
  refine cif_dec (fun c0 => ?_) (fun c0 => ?_)
  · simp (disch := omega) [-hset_if, -Bool.decide_and, hset_ne]
    refine Fin_id ?_
    refine hk _ _ (fun _ _ => rfl) ?_
    have e : compS xs = xs := by
      match xs, c0 with
      | [], _ => rfl
      | [x], _ => rfl
      | x :: y :: r, h => simp at h; omega
    rw [e]; exact hs
  simp (disch := omega) [-hset_if, -Bool.decide_and, hset_ne]
  refine AW.while (σ := Nat) (fun m => xs.length - m) (fun m => [(0, v), (3, .int .i64 ((m : Int) + 1))])
    (fun m n2 H2 => n = n2 ∧ H = H2 ∧ m + 1 ≤ xs.length ∧ compS (xs.take (m + 1)) = xs.take (m + 1)) 0 ?_ ?_ ?_
  · simp (disch := omega) [-hset_if, -Bool.decide_and, hset_ne]
  · refine ⟨rfl, rfl, by omega, ?_⟩
    rw [take_next (by omega)]
    rfl
  rintro m _ _ ⟨rfl, rfl, g1, g2⟩
  simp (disch := omega) [-hset_if, -Bool.decide_and, hset_ne, hs.sl.lenK]
  refine cif_dec (fun c1 => ?_) (fun c1 => ?_)
  · have hm1 : m + 1 < xs.length := by omega
    have hnx := compS_next hm1
    have em : ((m : Int) + 1) = ((m + 1 : Nat) : Int) := by omega
    simp (disch := omega) [-hset_if, -Bool.decide_and, hset_ne]
    refine AW.draw (X := ⟨_, 61, _, _⟩) (id := 6) mixed (.take 0 <| .take 1 <| .take 2 <| .take 3 <| .take 4 <| .take 5 <| .take 6 <| .take 7 <| .take 8 <| .take 9 <| .done) (by kernel_rfl) ?_
    simp (disch := omega) [-hset_if, -Bool.decide_and, hset_ne, hs.sl.ix elemS22, hs.sl.load0 shp9]
    refine cif_dec (fun c2 => ?_) (fun c2 => ?_)
    · rw [em] at c2
      rw [if_pos c2.symm, g2] at hnx
      simp (disch := omega) [-hset_if, -Bool.decide_and, hset_ne]
      rw [em]
      refine hs.tail tk22 elemS22 (j := m + 1) (by omega) ?_
      intro v' hv'
      simp (disch := omega) [-hset_if, -Bool.decide_and, hset_ne]
      refine AW.while (σ := Nat × Nat × List ByteArray) (fun s => xs.length - s.1) (fun s => [(0, v), (4, v'), (3, .int .i64 (s.2.1 : Int)), (5, .int .i64 ((s.1 : Int) + 1))])
        (fun s n2 H2 => n = n2 ∧ (∀ i, ¬ E i → H2 i = H i) ∧ CpI H2 w0 n E v xs m s) (0, m + 1, xs) ?_ ?_ ?_
      · simp (disch := omega) [-hset_if, -Bool.decide_and, hset_ne]
      · exact ⟨rfl, fun _ _ => rfl, ⟨hs, rfl, by dsimp only; omega, by dsimp only; omega, rfl, by dsimp only; rw [Nat.add_zero, hnx]⟩⟩
      clear hnx c2
      rintro ⟨i, b, ys⟩ _ H2 ⟨rfl, l1, ⟨l2, l3, l4, l5, l6, l7⟩⟩
      dsimp only at l2 l3 l4 l5 l6 l7 ⊢
      have hv2 := IsTail.sl l2 hv' (by omega)
      have hdl : (ys.drop (m + 1)).length = xs.length - (m + 1) := by rw [List.length_drop, l3]
      simp (disch := omega) [-hset_if, -Bool.decide_and, hset_ne, hv2.lenK, hdl]
      refine cif_dec (fun c3 => ?_) (fun c3 => ?_)
      · have hi : m + 2 + i < xs.length := by omega
        have hnx := compS_next (xs := xs) (m := m + 1 + i) (by omega)
        obtain ⟨a1, e1⟩ : ∃ a, at_ xs ((m + 1 + i : Nat) : Int) = a := ⟨_, rfl⟩
        obtain ⟨a2, e2⟩ : ∃ a, at_ xs ((m + 1 + i + 1 : Nat) : Int) = a := ⟨_, rfl⟩
        have ha1 : at_ (ys.drop (m + 1)) (i : Int) = a1 := by
          rw [at_drop (by omega), ← e1]
          exact at_of_drop (j := m + 1 + i) (i := 0) l6 (by omega) (by omega)
        have ha2 : at_ (ys.drop (m + 1)) ((i : Int) + 1) = a2 := by
          rw [show ((i : Int) + 1) = ((i + 1 : Nat) : Int) by omega, at_drop (by omega), ← e2]
          exact at_of_drop (j := m + 1 + i) (i := 1) l6 (by omega) (by omega)
        rw [e1, e2] at hnx
        have hd2 : ys.drop (m + 1 + (i + 1)) = xs.drop (m + 1 + (i + 1)) := by rw [← Nat.add_assoc, ← List.drop_drop, l6, List.drop_drop]
        simp (disch := omega) [-hset_if, -Bool.decide_and, hset_ne]
        refine AW.draw (X := ⟨_, 61, _, _⟩) (id := 11) mixed (.take 0 <| .take 1 <| .take 2 <| .take 3 <| .take 4 <| .take 5 <| .take 6 <| .take 7 <| .take 8 <| .take 9 <| .done) (by kernel_rfl) ?_
        simp (disch := omega) [-hset_if, -Bool.decide_and, hset_ne, hv2.ix elemS22, hv2.load0 shp9, hdl, ha1, ha2]
        refine cif_dec (fun c4 => ?_) (fun c4 => ?_)
        · rw [if_pos c4.symm] at hnx
          simp (disch := omega) [-hset_if, -Bool.decide_and, hset_ne]
          exact Next.mk (i + 1, b, ys) (by first | omega | (dsimp only; omega)) (by simp (disch := omega) [-hset_if, -Bool.decide_and, hset_ne]) ⟨rfl, l1, ⟨l2, l3, (by first | omega | (dsimp only; omega)), (by first | omega | (dsimp only; omega)), hd2, by dsimp only; rw [l7, show m + 2 + (i + 1) = m + 1 + i + 2 by omega, hnx]; congr 2; omega⟩⟩
        · rw [if_neg (fun e => c4 e.symm)] at hnx
          simp (disch := omega) [-hset_if, -Bool.decide_and, hset_ne, hv2.ix elemS22, hv2.load0 shp9, hdl, ha2, l2.sl.ix elemS22, l3]
          refine l2.store0 shp9 (by omega) (by omega) a2 (by simp) (by simp) (by simp) ?_
          intro H4 f1 f2
          simp (disch := omega) [-hset_if, -Bool.decide_and, hset_ne]
          refine Next.mk (i + 1, b + 1, ys.set b a2) (by first | omega | (dsimp only; omega)) (by simp (disch := omega) [-hset_if, -Bool.decide_and, hset_ne]) ⟨rfl, fun x hx => by rw [f1 x hx, l1 x hx], ⟨by simpa using f2, (by dsimp only; rw [List.length_set]; exact l3), (by first | omega | (dsimp only; omega)), (by first | omega | (dsimp only; omega)), ?_, ?_⟩⟩
          · dsimp only
            rw [List.drop_set_of_lt (by omega), hd2]
          · dsimp only
            rw [show m + 2 + (i + 1) = m + 1 + i + 2 by omega, hnx, show m + 1 + i + 1 = m + 2 + i by omega, ← l7, List.take_succ_eq_append_getElem (by simp; omega)]
            simp [List.take_set_of_le]
      · have hi : m + 2 + i = xs.length := by omega
        have hby : b ≤ ys.length := by omega
        simp (disch := omega) [-hset_if, -Bool.decide_and, hset_ne]
        refine l2.tail tk22 elemS22 hby ?_
        intro v2 hv3
        simp (disch := omega) [-hset_if, -Bool.decide_and, hset_ne]
        refine l2.clear tk22 elemS22 zero9 (by simp) (by simp) hby hv3 ?_
        intro H3 f1 f2
        simp (disch := omega) [-hset_if, -Bool.decide_and, hset_ne, l2.headEq tk22 elemS22 hby]
        refine Fin_id ?_
        refine hk _ _ (fun x hx => by rw [f1 x hx, l1 x hx]) ?_
        rw [l7, hi, List.take_length] at f2
        exact f2
    · rw [em] at c2
      rw [if_neg (fun e => c2 e.symm), g2] at hnx
      simp (disch := omega) [-hset_if, -Bool.decide_and, hset_ne]
      exact Next.mk (m + 1) (by first | omega | (dsimp only; omega)) (by simp (disch := omega) [-hset_if, -Bool.decide_and, hset_ne]) ⟨rfl, rfl, by omega, by rw [hnx, take_next (j := m + 1) hm1]⟩
  · simp (disch := omega) [-hset_if, -Bool.decide_and, hset_ne]
    refine Fin_id ?_
    refine hk _ _ (fun _ _ => rfl) ?_
    rw [List.take_of_length_le (by omega)] at g2
    rw [g2]; exact hs
/-- slices.Clone of Str. -/
theorem cloneStr_ok {v : Value} {D : Nat → Prop} {xs : List Str} (hs : SlR ⟨Try.prog, w0⟩ H D 1 Str.cells v xs) (hD : ∀ i, D i → i < n) (hone : ∀ x ∈ xs, oneAll (Str.cells x) = true)
    (hb : xs.length * 16 ≤ 140737488355328) (hl : xs.length ≤ 140737488355328)
    (hk : ∀ v' n' H' E, n ≤ n' → (∀ i, i < n → H' i = H i) → (∀ i, E i → n ≤ i ∧ i < n') → OwR ⟨Try.prog, w0⟩ H' n' E 9 1 Str.cells v' xs → K v' n' H') : ACall ⟨Try.prog, w0⟩ 83 [v] K n H := by
  refine ACall.run Try.func83 rfl Try.ntmps83 Try.results83 (by simp) fun J0 => ?_
  simp (disch := omega) [-hset_if, -Bool.decide_and, hset_ne, hs.eqNil tk22]
  refine cif_var (fun hv => ?_) (fun hv => ?_)
  · obtain ⟨rfl, rfl⟩ := hs.of_nil hv
    simp (disch := omega) [-hset_if, -Bool.decide_and, hset_ne]
    refine Fin_id ?_
    exact hk _ n H (fun _ => False) (Nat.le_refl _) (fun _ _ => rfl) (fun _ h => h.elim) (OwR.nil (by omega))
  · simp (disch := omega) [-hset_if, -Bool.decide_and, hset_ne]
    have ho := OwR.empty (C := ⟨Try.prog, w0⟩) (f := Str.cells) (T := 9) (sz := 1) (n := n + 1) (j := n) (H := hset n (.cells [] 9 1) H) (by omega) (by omega) (hset_same _ _ _)
    have hs1 : SlR ⟨Try.prog, w0⟩ (hset n (.cells [] 9 1) H) D 1 Str.cells v xs := hs.frame (fun i hi => hset_ne (by have := hD i hi; omega) _ _)
    refine ho.appendS elemS22 zero9 (by simp) hs1 hone (by simpa using hb) (by simpa using hl) ?_
    intro v' n' H' D' h1 h2 h3 h4 h5
    simp (disch := omega) [-hset_if, -Bool.decide_and, hset_ne]
    refine Fin_id ?_
    refine hk v' n' H' D' (by omega) (fun i hi => by rw [h3 i (by omega) (by omega), hset_ne (by omega)]) (fun i hi => ⟨?_, h5.lt i hi⟩) (by simpa using h5)
    rcases h4 i hi with h | h <;> omega
end Go.Aw.S15
