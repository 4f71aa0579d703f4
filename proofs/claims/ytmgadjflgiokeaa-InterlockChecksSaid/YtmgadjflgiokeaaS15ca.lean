/-
  Chapter 15: lists of groups; what holds for one of them.
-/
import Derived.Test.YtmgadjflgiokeaaS15i
import Derived.Test.YtmgadjflgiokeaaAw15
import Derived.Test.YtmgadjflgiokeaaAw17
namespace Go.Aw.S15
open Go.RowKit Go.Proofs Go.Aw.Tab
set_option linter.unusedSimpArgs false
set_option linter.unusedVariables false
set_option maxRecDepth 10000
set_option maxHeartbeats 1000000
set_option pp.deepTerms false
set_option pp.deepTerms.threshold 4
set_option pp.maxSteps 1500
structure Gr where
  nm : ByteArray
  pv : Value
  ps : List ByteArray
  dd : Int
instance : Inhabited Gr := ⟨⟨⟨#[]⟩, .slice none 0 0, [], 0⟩⟩
def Gr.cells (g : Gr) : List Value := [.string g.nm, g.pv, .int .i64 g.dd]
structure Pt where
  nm : ByteArray
  kind : Int
  role : Int
  unit : ByteArray
  low : Int
  high : Int
  step : Int
  sv : Value
  dk : Int
  dn : Int
  mon : Int
  moff : Int
instance : Inhabited Pt := ⟨⟨⟨#[]⟩, 0, 0, ⟨#[]⟩, 0, 0, 0, .slice none 0 0, 0, 0, 0, 0⟩⟩
def Pt.cells (p : Pt) : List Value := [.string p.nm, .int .i64 p.kind, .int .i64 p.role, .string p.unit, .int .i64 p.low, .int .i64 p.high, .int .i64 p.step, p.sv, .int .i64 p.dk, .int .i64 p.dn, .int .i64 p.mon, .int .i64 p.moff]
abbrev Str := ByteArray
abbrev Str.cells : Str → List Value := strC
attribute [local simp] Gr.cells Pt.cells strC
variable {w0 : World} {n : Nat} {H : Heap} {K : Value → Nat → Heap → Prop} {D E : Nat → Prop} {gs : List Gr} {pts : List Pt}
theorem mem_at {α : Type} [Inhabited α] {l : List α} {x : α} (h : x ∈ l) : ∃ q : Nat, q < l.length ∧ at_ l (q : Int) = x := by
  obtain ⟨q, hq, e⟩ := List.getElem_of_mem h
  exact ⟨q, hq, by rw [at_nat hq]; exact e⟩
/-- Groups in memory. -/
structure GrsR (H : Heap) (w0 : World) (D : Nat → Prop) (v : Value) (gs : List Gr) : Prop where
  sl : SlR ⟨Try.prog, w0⟩ H D 3 Gr.cells v gs
  ps : ∀ g ∈ gs, SlR ⟨Try.prog, w0⟩ H D 1 strC g.pv g.ps
  lb : gs.length ≤ 9223372036854775806
  pb : ∀ g ∈ gs, g.ps.length ≤ 9223372036854775806
theorem GrsR.frame {v : Value} {H' : Heap} (h : GrsR H w0 D v gs) (f : ∀ i, D i → H' i = H i) : GrsR H' w0 D v gs := ⟨h.sl.frame f, fun g hg => (h.ps g hg).frame f, h.lb, h.pb⟩
structure PtsR (H : Heap) (w0 : World) (D : Nat → Prop) (v : Value) (pts : List Pt) : Prop where
  sl : SlR ⟨Try.prog, w0⟩ H D 12 Pt.cells v pts
  st : ∀ p ∈ pts, p.sv.oneCell' = true
  lb : pts.length ≤ 9223372036854775806
theorem PtsR.frame {v : Value} {H' : Heap} (h : PtsR H w0 D v pts) (f : ∀ i, D i → H' i = H i) : PtsR H' w0 D v pts := ⟨h.sl.frame f, h.st, h.lb⟩
/-- slices.IndexFunc and ContainsFunc over Gr. -/
theorem indexGr_ok {v : Value} {D : Nat → Prop} {xs : List Gr} {g : FuncId} {caps : Array Value} {p : Gr → Bool} (hs : SlR ⟨Try.prog, w0⟩ H D 3 Gr.cells v xs) (hD : ∀ i, D i → i < n)
    (hg : ∀ r ∈ xs, ∀ n' H' (K' : Value → Nat → Heap → Prop), n ≤ n' → (∀ i, i < n → H' i = H i) → (∀ n'' H'', n' ≤ n'' → (∀ i, i < n' → H'' i = H' i) → K' (.bool (p r)) n'' H'') → ACall ⟨Try.prog, w0⟩ g (.agg #[.string r.nm, r.pv, .int .i64 r.dd] :: caps.toList) K' n' H')
    (hb : xs.length < 9223372036854775807) (hent : entB Try.prog g = true) (hk : ∀ n' H', n ≤ n' → (∀ i, i < n → H' i = H i) → K (.int .i64 (fidx p xs)) n' H') : ACall ⟨Try.prog, w0⟩ 85 [v, .func (.func g) #[] caps] K n H := by
  refine ACall.run Try.func85 rfl Try.ntmps85 Try.results85 (by simp) fun J0 => ?_
  simp (disch := omega) [-hset_if, -Bool.decide_and, hset_ne, hs.lenK]
  refine AW.while (σ := Nat) (fun j => xs.length - j) (fun j => [(0, v), (1, .func (.func g) #[] caps), (7, .int .i64 xs.length), (8, .int .i64 j)]) (fun j n1 H1 => j ≤ xs.length ∧ n ≤ n1 ∧ (∀ i, i < n → H1 i = H i) ∧ ∀ q, q < j → p (at_ xs (q : Int)) = false) 0 ?_ ?_ ?_
  · simp (disch := omega) [-hset_if, -Bool.decide_and, hset_ne]
  · exact ⟨by omega, Nat.le_refl _, fun _ _ => rfl, fun q hq => by omega⟩
  rintro j n1 H1 ⟨g1, g2, g3, g4⟩
  have hs1 : SlR ⟨Try.prog, w0⟩ H1 D 3 Gr.cells v xs := hs.frame (fun i hi => g3 i (hD i hi))
  simp (disch := omega) [-hset_if, -Bool.decide_and, hset_ne]
  refine cif_dec (fun h => ?_) (fun h => ?_)
  · have hx : at_ xs (j : Int) ∈ xs := by rw [at_nat h]; exact List.getElem_mem _
    simp (disch := omega) [-hset_if, -Bool.decide_and, hset_ne, hs1.ix elemS72, hs1.load0 shp24, hent]
    have hc := hg _ hx n1 H1
    refine hc _ g2 g3 ?_
    intro n2 H2 e1 e2
    simp (disch := omega) [-hset_if, -Bool.decide_and, hset_ne]
    refine cif_var (fun hp => ?_) (fun hp => ?_)
    · simp (disch := omega) [-hset_if, -Bool.decide_and, hset_ne]
      refine Fin_id ?_
      rw [fidx_found h hp g4] at hk
      exact hk _ _ (by omega) (fun i hi => by rw [e2 i (by omega), g3 i hi])
    · simp (disch := omega) [-hset_if, -Bool.decide_and, hset_ne]
      refine Next.mk (j + 1) (by first | omega | (simp only; omega)) (by simp (disch := omega) [-hset_if, -Bool.decide_and, hset_ne]) ⟨by omega, by omega, fun i hi => by rw [e2 i (by omega), g3 i hi], fun q hq => ?_⟩
      by_cases e : q < j
      · exact g4 q e
      · obtain rfl : q = j := by omega
        exact hp
  · simp (disch := omega) [-hset_if, -Bool.decide_and, hset_ne]
    refine Fin_id ?_
    rw [fidx_none (fun q hq => g4 q (by omega))] at hk
    exact hk _ _ g2 g3
theorem containsGr_ok {v : Value} {D : Nat → Prop} {xs : List Gr} {g : FuncId} {caps : Array Value} {p : Gr → Bool} (hs : SlR ⟨Try.prog, w0⟩ H D 3 Gr.cells v xs) (hD : ∀ i, D i → i < n)
    (hg : ∀ r ∈ xs, ∀ n' H' (K' : Value → Nat → Heap → Prop), n ≤ n' → (∀ i, i < n → H' i = H i) → (∀ n'' H'', n' ≤ n'' → (∀ i, i < n' → H'' i = H' i) → K' (.bool (p r)) n'' H'') → ACall ⟨Try.prog, w0⟩ g ((.agg #[.string r.nm, r.pv, .int .i64 r.dd]) :: caps.toList) K' n' H')
    (hb : xs.length < 9223372036854775807) (hent : entB Try.prog g = true) (hk : ∀ n' H', n ≤ n' → (∀ i, i < n → H' i = H i) → K (.bool (xs.any p)) n' H') : ACall ⟨Try.prog, w0⟩ 79 [v, .func (.func g) #[] caps] K n H := by
  refine ACall.run Try.func79 rfl Try.ntmps79 Try.results79 (by simp) fun J0 => ?_
  simp (disch := omega) [-hset_if, -Bool.decide_and, hset_ne]
  refine indexGr_ok hs hD hg hb hent ?_
  intro n1 H1 e1 e2
  simp (disch := omega) [-hset_if, -Bool.decide_and, hset_ne]
  refine Fin_id ?_
  rw [fidx_any]
  exact hk _ _ e1 e2
/-- slices.IndexFunc and ContainsFunc over Str. -/
theorem indexStr_ok {v : Value} {D : Nat → Prop} {xs : List Str} {g : FuncId} {caps : Array Value} {p : Str → Bool} (hs : SlR ⟨Try.prog, w0⟩ H D 1 strC v xs) (hD : ∀ i, D i → i < n)
    (hg : ∀ r ∈ xs, ∀ n' H' (K' : Value → Nat → Heap → Prop), n ≤ n' → (∀ i, i < n → H' i = H i) → (∀ n'' H'', n' ≤ n'' → (∀ i, i < n' → H'' i = H' i) → K' (.bool (p r)) n'' H'') → ACall ⟨Try.prog, w0⟩ g (.string r :: caps.toList) K' n' H')
    (hb : xs.length < 9223372036854775807) (hent : entB Try.prog g = true) (hk : ∀ n' H', n ≤ n' → (∀ i, i < n → H' i = H i) → K (.int .i64 (fidx p xs)) n' H') : ACall ⟨Try.prog, w0⟩ 80 [v, .func (.func g) #[] caps] K n H := by
  refine ACall.run Try.func80 rfl Try.ntmps80 Try.results80 (by simp) fun J0 => ?_
  simp (disch := omega) [-hset_if, -Bool.decide_and, hset_ne, hs.lenK]
  refine AW.while (σ := Nat) (fun j => xs.length - j) (fun j => [(0, v), (1, .func (.func g) #[] caps), (7, .int .i64 xs.length), (8, .int .i64 j)]) (fun j n1 H1 => j ≤ xs.length ∧ n ≤ n1 ∧ (∀ i, i < n → H1 i = H i) ∧ ∀ q, q < j → p (at_ xs (q : Int)) = false) 0 ?_ ?_ ?_
  · simp (disch := omega) [-hset_if, -Bool.decide_and, hset_ne]
  · exact ⟨by omega, Nat.le_refl _, fun _ _ => rfl, fun q hq => by omega⟩
  rintro j n1 H1 ⟨g1, g2, g3, g4⟩
  have hs1 : SlR ⟨Try.prog, w0⟩ H1 D 1 strC v xs := hs.frame (fun i hi => g3 i (hD i hi))
  simp (disch := omega) [-hset_if, -Bool.decide_and, hset_ne]
  refine cif_dec (fun h => ?_) (fun h => ?_)
  · have hx : at_ xs (j : Int) ∈ xs := by rw [at_nat h]; exact List.getElem_mem _
    simp (disch := omega) [-hset_if, -Bool.decide_and, hset_ne, hs1.ix elemS22, hs1.load0 shp9, hent]
    have hc := hg _ hx n1 H1
    refine hc _ g2 g3 ?_
    intro n2 H2 e1 e2
    simp (disch := omega) [-hset_if, -Bool.decide_and, hset_ne]
    refine cif_var (fun hp => ?_) (fun hp => ?_)
    · simp (disch := omega) [-hset_if, -Bool.decide_and, hset_ne]
      refine Fin_id ?_
      rw [fidx_found h hp g4] at hk
      exact hk _ _ (by omega) (fun i hi => by rw [e2 i (by omega), g3 i hi])
    · simp (disch := omega) [-hset_if, -Bool.decide_and, hset_ne]
      refine Next.mk (j + 1) (by first | omega | (simp only; omega)) (by simp (disch := omega) [-hset_if, -Bool.decide_and, hset_ne]) ⟨by omega, by omega, fun i hi => by rw [e2 i (by omega), g3 i hi], fun q hq => ?_⟩
      by_cases e : q < j
      · exact g4 q e
      · obtain rfl : q = j := by omega
        exact hp
  · simp (disch := omega) [-hset_if, -Bool.decide_and, hset_ne]
    refine Fin_id ?_
    rw [fidx_none (fun q hq => g4 q (by omega))] at hk
    exact hk _ _ g2 g3
theorem containsStr_ok {v : Value} {D : Nat → Prop} {xs : List Str} {g : FuncId} {caps : Array Value} {p : Str → Bool} (hs : SlR ⟨Try.prog, w0⟩ H D 1 strC v xs) (hD : ∀ i, D i → i < n)
    (hg : ∀ r ∈ xs, ∀ n' H' (K' : Value → Nat → Heap → Prop), n ≤ n' → (∀ i, i < n → H' i = H i) → (∀ n'' H'', n' ≤ n'' → (∀ i, i < n' → H'' i = H' i) → K' (.bool (p r)) n'' H'') → ACall ⟨Try.prog, w0⟩ g ((.string r) :: caps.toList) K' n' H')
    (hb : xs.length < 9223372036854775807) (hent : entB Try.prog g = true) (hk : ∀ n' H', n ≤ n' → (∀ i, i < n → H' i = H i) → K (.bool (xs.any p)) n' H') : ACall ⟨Try.prog, w0⟩ 58 [v, .func (.func g) #[] caps] K n H := by
  refine ACall.run Try.func58 rfl Try.ntmps58 Try.results58 (by simp) fun J0 => ?_
  simp (disch := omega) [-hset_if, -Bool.decide_and, hset_ne]
  refine indexStr_ok hs hD hg hb hent ?_
  intro n1 H1 e1 e2
  simp (disch := omega) [-hset_if, -Bool.decide_and, hset_ne]
  refine Fin_id ?_
  rw [fidx_any]
  exact hk _ _ e1 e2
end Go.Aw.S15
