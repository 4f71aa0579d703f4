/-
  Chapter 34: the ends, in order; Next.
-/
import Derived.Test.YtlcngkigfcacmaaS34d
import Derived.Test.YtlcngkigfcacmaaS34sh
namespace Go.Aw.S34
open Go.RowKit Go.Proofs Go.Aw.Tab
set_option linter.unusedSimpArgs false
set_option linter.unusedVariables false
set_option maxRecDepth 10000
set_option maxHeartbeats 1000000
set_option pp.deepTerms false
set_option pp.deepTerms.threshold 4
set_option pp.maxSteps 1500
@[local simp] theorem range_get {i n : Nat} (h : i < n) : (List.range n)[i]? = some i := by simp [h]
attribute [local simp] Hold.cells
variable {w0 : World} {n : Nat} {H : Heap} {K : Value → Nat → Heap → Prop} {s : ByteArray} {pv : Value} {D : Nat → Prop} {l : List Hold} {t : Int}
def intC (x : Int) : List Value := [.int .i64 x]
def sortI (xs : List Int) : List Int := xs.mergeSort fun x y => decide (x ≤ y)
theorem sortI_len (xs : List Int) : (sortI xs).length = xs.length := List.length_mergeSort _
theorem sort_ok {E : Nat → Prop} {v : Value} {xs : List Int} (ho : OwR ⟨Try.prog, w0⟩ H n E 3 1 intC v xs) (hl : xs.length < 4611686018427387904)
    (hk : ∀ H', (∀ i, ¬ E i → H' i = H i) → OwR ⟨Try.prog, w0⟩ H' n E 3 1 intC v (sortI xs) → K (.tuple #[]) n H') : ACall ⟨Try.prog, w0⟩ 46 [v] K n H := by
  refine ACall.sorted (α := Int) (g := intC) (enc := Value.int .i64) (h := id) (h' := id) (fun _ => by rfl) sortI sortI_len (fun blk cap zs w h1 h2 h3 => Try.slices_Sort_int blk 0 cap zs w h1 h2 h3) (fun w => ?_) (by simp [sortI]) (fun y => rfl) (fun _ => rfl) ho hl ?_
  · refine (Try.slices_Sort_int_none none 0 w).mono ?_
    rintro e w' ⟨h1, h2⟩
    exact ⟨h1, 0, #[], by rw [h2, Sort.grow_empty]; rfl⟩
  · simpa using hk
def endsL (l : List Hold) : List Int := l.flatMap fun h => [h.fr, h.to]
theorem endsL_len : (endsL l).length = 2 * l.length := by
  induction l with
  | nil => rfl
  | cons x r ih => simp only [endsL, List.flatMap_cons, List.length_append, List.length_cons, List.length_nil] at ih ⊢; omega
theorem endsL_take {j : Nat} (h : j < l.length) : endsL (l.take (j + 1)) = endsL (l.take j) ++ [(at_ l (j : Int)).fr, (at_ l (j : Int)).to] := by
  rw [endsL, take_next h, List.flatMap_append]; simp [endsL]
structure EP where
  j : Nat
  v : Value
  E : Nat → Prop
theorem ends_ok (hs : SlR ⟨Try.prog, w0⟩ H D 6 Hold.cells pv l) (hD : ∀ i, D i → i < n) (hb : l.length ≤ 64)
    (hk : ∀ n' H' v E, n ≤ n' → (∀ i, i < n → H' i = H i) → (∀ i, E i → n ≤ i) → OwR ⟨Try.prog, w0⟩ H' n' E 3 1 intC v (sortI (endsL l)) → K v n' H') : ACall ⟨Try.prog, w0⟩ 29 [pv] K n H := by
  refine ACall.run Try.func29 rfl Try.ntmps29 Try.results29 (by simp) fun J0 => ?_
  simp (disch := omega) [-hset_if, -Bool.decide_and, hset_ne, hs.lenK]
  refine AW.while (σ := EP) (fun s => l.length - s.j) (fun s => [(6, pv), (7, .int .i64 l.length), (3, s.v), (8, .int .i64 s.j)])
    (fun s n1 H1 => s.j ≤ l.length ∧ n ≤ n1 ∧ (∀ i, i < n → H1 i = H i) ∧ OwR ⟨Try.prog, w0⟩ H1 n1 s.E 3 1 intC s.v (endsL (l.take s.j)) ∧ ∀ i, s.E i → n ≤ i) ⟨0, .slice none 0 0, fun _ => False⟩ ?_ ?_ ?_
  · simp (disch := omega) [-hset_if, -Bool.decide_and, hset_ne]
  · exact ⟨by simp, by omega, fun _ _ => rfl, OwR.nil (by omega), fun _ h => h.elim⟩
  rintro ⟨j, v, E⟩ n1 H1 ⟨g1, g2, g3, g4, g5⟩
  dsimp only at g1 g4 g5 ⊢
  have hs1 : SlR ⟨Try.prog, w0⟩ H1 D 6 Hold.cells pv l := hs.frame (fun i hi => g3 i (hD i hi))
  have hL : (endsL (l.take j)).length ≤ 128 := by rw [endsL_len]; simp; omega
  simp (disch := omega) [-hset_if, -Bool.decide_and, hset_ne]
  refine cif_dec (fun h => ?_) (fun h => ?_)
  · simp (disch := omega) [-hset_if, -Bool.decide_and, hset_ne, hs1.ix elemS22, hs1.load shp43, hs1.load0 shp43]
    have o1 := fun o o' => g4.frame (m := n1 + 2) (H' := hset (n1 + 1) o (hset n1 o' H1)) (by omega) (fun i hi => by have := g4.lt i hi; rw [hset_ne (by omega), hset_ne (by omega)])
    have o2 := fun H' h => OwR.lit (C := ⟨Try.prog, w0⟩) (H := H') (T := 3) (sz := 1) (f := intC) (n := n1 + 2) (j := n1 + 1) (l := 2) (xs := [(at_ l (j : Int)).fr, (at_ l (j : Int)).to]) (cs := [.int .i64 (at_ l (j : Int)).fr, .int .i64 (at_ l (j : Int)).to]) (by omega) (by simp [intC]) (by omega) h (by simp [intC]) (by simp)
    refine (o1 _ _).appendS elemS56 zero3 rfl (o2 _ (hset_same _ _ _)).sl (fun y _ => by simp [intC]) (by simp; omega) (by simp; omega) ?_
    intro v2 n2 H2 E2 p1 p2 p3 p4 p5
    simp (disch := omega) [-hset_if, -Bool.decide_and, hset_ne]
    refine Next.mk ⟨j + 1, v2, E2⟩ (by first | omega | (dsimp only; omega)) (by simp (disch := omega) [-hset_if, -Bool.decide_and, hset_ne]) ⟨(by first | omega | (dsimp only; omega)), by omega, fun i hi => ?_, ?_, fun i hi => ?_⟩
    · rw [p3 i (by omega) (fun e => by have := g5 i e; omega), hset_ne (by omega), hset_ne (by omega)]; exact g3 i hi
    · dsimp only; rw [endsL_take h]; exact p5
    · rcases p4 i hi with h | h
      · exact g5 i h
      · omega
  · rw [List.take_of_length_le (by omega)] at g4 hL
    simp (disch := omega) [-hset_if, -Bool.decide_and, hset_ne]
    refine sort_ok g4 (by omega) ?_
    intro H2 p1 p2
    simp (disch := omega) [-hset_if, -Bool.decide_and, hset_ne]
    refine Fin_id (hk _ _ _ _ (by omega) (fun i hi => ?_) g5 p2)
    rw [p1 i (fun e => by have := g5 i e; omega)]; exact g3 i hi
end Go.Aw.S34
