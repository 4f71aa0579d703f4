/-
  Chapter 34: Few; the examples.
-/
import Derived.Test.YtlcngkigfcacmaaS34g
namespace Go.Aw.S34
open Go.RowKit Go.Proofs Go.Aw.Tab
set_option linter.unusedSimpArgs false
set_option linter.unusedVariables false
set_option maxRecDepth 10000
set_option maxHeartbeats 1000000
set_option pp.deepTerms false
set_option pp.deepTerms.threshold 4
set_option pp.maxSteps 1500
attribute [local simp] Hold.cells intC range_get Pc.cells
variable {w0 : World} {n : Nat} {H : Heap} {K : Value → Nat → Heap → Prop} {s : ByteArray} {pv : Value} {D : Nat → Prop} {l : List Hold} {t fr to : Int}
def fewB (l : List Hold) : Bool := decide (l.length ≤ 70) && l.all fun h => decide (h.nm.size ≤ 100)
theorem few_ok (hs : SlR ⟨Try.prog, w0⟩ H D 6 Hold.cells pv l) (hD : ∀ i, D i → i < n) (hk : K (.bool (fewB l)) n H) : ACall ⟨Try.prog, w0⟩ 11 [pv] K n H := by
  unfold fewB at hk
  refine ACall.go Try.func11 rfl Try.ntmps11 Try.results11 (by simp) fun hU hu J0 => ?_
  simp (disch := omega) [-hset_if, -Bool.decide_and, hset_ne, hs.lenK]
  refine cif_dec (fun h => ?_) (fun h => ?_)
  · rw [decide_eq_false (by omega), Bool.false_and] at hk
    simp (disch := omega) [-hset_if, -Bool.decide_and, hset_ne]
    exact Fin.ret hU hk (by simp) rfl (by omega) (fun i hi => by simp (disch := omega) only [hset_ne])
  rw [decide_eq_true (by omega), Bool.true_and] at hk
  simp (disch := omega) [-hset_if, -Bool.decide_and, hset_ne]
  refine AW.while (σ := Nat) (fun j => l.length - j) (fun j => [(0, pv), (3, .int .i64 j)])
    (fun j n1 H1 => n1 = n ∧ H1 = H ∧ j ≤ l.length ∧ K (.bool ((l.drop j).all fun h => decide (h.nm.size ≤ 100))) n H) 0 ?_ ?_ ?_
  · simp (disch := omega) [-hset_if, -Bool.decide_and, hset_ne]
  · exact ⟨rfl, rfl, by omega, hk⟩
  clear hk
  rintro j n1 H1 ⟨rfl, rfl, g1, hk⟩
  simp (disch := omega) [-hset_if, -Bool.decide_and, hset_ne, hs.lenK]
  refine cif_dec (fun hj => ?_) (fun hj => ?_)
  · rw [drop_at hj, List.all_cons] at hk
    simp (disch := omega) [-hset_if, -Bool.decide_and, hset_ne, hs.ix elemS22, hs.load shp9, hs.load0 shp9]
    refine cif_dec (fun h2 => ?_) (fun h2 => ?_)
    · rw [decide_eq_false (by omega), Bool.false_and] at hk
      simp (disch := omega) [-hset_if, -Bool.decide_and, hset_ne]
      exact Fin.ret hU hk (by simp) rfl (by omega) (fun i hi => by simp (disch := omega) only [hset_ne])
    · rw [decide_eq_true (by omega), Bool.true_and] at hk
      simp (disch := omega) [-hset_if, -Bool.decide_and, hset_ne]
      refine Next.mk (j + 1) (by first | omega | (dsimp only; omega)) (by simp (disch := omega) [-hset_if, -Bool.decide_and, hset_ne]) ⟨rfl, rfl, (by first | omega | (dsimp only; omega)), ?_⟩
      exact hk
  · rw [List.drop_of_length_le (by omega)] at hk
    simp (disch := omega) [-hset_if, -Bool.decide_and, hset_ne]
    exact Fin.ret hU hk (by simp) rfl (by omega) (fun i hi => by simp (disch := omega) only [hset_ne])
def wl : List Hold := [⟨⟨#[97]⟩, 100, 200, 2, 1, 1⟩, ⟨⟨#[98]⟩, 150, 160, 2, 1, 2⟩]
theorem wl_chk : chk wl = 0 := by kernel_rfl
theorem wl_sort : sortI (endsL wl) = [100, 150, 160, 200] := by
  show sortI [100, 200, 150, 160] = _
  simp [sortI, List.mergeSort, List.MergeSort.Internal.splitInTwo, List.merge]
theorem wl_pc : pcP wl 140 210 = [⟨140, 150, 0⟩, ⟨150, 160, 1⟩, ⟨160, 200, 0⟩, ⟨200, 210, -1⟩] := by
  unfold pcP; rw [wl_sort, wl_chk]; decide
theorem wl_pe : pcE wl 140 210 = 0 := by
  unfold pcE; rw [wl_chk]; decide
theorem wl_n1 : nxtP wl 140 = (150, 0) := by
  unfold nxtP; rw [wl_sort, wl_chk]; decide
theorem wl_n2 : nxtP wl 200 = (0, 9) := by
  unfold nxtP; rw [wl_sort, wl_chk]; decide
theorem wl_a1 : atC (chk wl) wl 160 = 0 := by rw [wl_chk]; decide
theorem wl_a2 : atC (chk wl) wl 200 = -1 := by rw [wl_chk]; decide
theorem awake_r (hr : Res n H K (.bool true)) : ACall ⟨Try.prog, w0⟩ 10 [] K n H := by
  refine ACall.run Try.func10 rfl Try.ntmps10 Try.results10 (by simp) fun J0 => ?_
  simp (disch := omega) [-hset_if, -Bool.decide_and, hset_ne]
  have hl : ∀ H' : Heap, H' (n + 1) = .cells (wl.flatMap Hold.cells) 43 6 → SlR ⟨Try.prog, w0⟩ H' (· = n + 1) 6 Hold.cells (.slice (some ⟨new (n + 1), 0, none⟩) 2 2) wl := fun H' h => (OwR.lit (n := n + 2) (T := 43) (cs := wl.flatMap Hold.cells) (by omega) (by simp) (by omega) h rfl rfl).sl
  have h0 := hl _ (hset_same _ (.cells (wl.flatMap Hold.cells) 43 6) (hset n (.cells [.int .i64 2, .int .i64 1] 41 1) H))
  have hG : hset (n + 1) (.cells (wl.flatMap Hold.cells) 43 6) (hset n (.cells [.int .i64 2, .int .i64 1] 41 1) H) = hset (n + 1) (.cells [.string ⟨#[97]⟩, .int .i64 100, .int .i64 200, .int .i64 2, .int .i64 1, .int .i64 1, .string ⟨#[98]⟩, .int .i64 150, .int .i64 160, .int .i64 2, .int .i64 1, .int .i64 2] 43 6) (hset n (.cells [.int .i64 2, .int .i64 1] 41 1) H) := rfl
  have hfr : ∀ i, i < n → hset (n + 1) (.cells (wl.flatMap Hold.cells) 43 6) (hset n (.cells [.int .i64 2, .int .i64 1] 41 1) H) i = H i := (fun i hi => by simp (disch := omega) only [hset_ne])
  rw [← hG]
  generalize hset (n + 1) (.cells (wl.flatMap Hold.cells) 43 6) (hset n (.cells [.int .i64 2, .int .i64 1] 41 1) H) = G at h0 hfr ⊢
  clear hl hG
  generalize Value.slice (some ⟨new (n + 1), 0, none⟩) 2 2 = lv at h0 ⊢
  have hlen : wl.length < 4611686018427387904 := by decide
  refine pieces_ok h0 (fun i hi => by omega) hlen ?_
  intro n1 H1 v E p1 p2 p3 p4
  rw [wl_pc] at p4
  rw [wl_pe]
  have h1 : SlR ⟨Try.prog, w0⟩ H1 (· = n + 1) 6 Hold.cells lv wl := h0.frame (fun i hi => p2 i (by omega))
  have hD : ∀ i, i = n + 1 → i < n1 := fun i hi => by omega
  have hl4 : ([⟨140, 150, 0⟩, ⟨150, 160, 1⟩, ⟨160, 200, 0⟩, ⟨200, 210, -1⟩] : List Pc).length = 4 := rfl
  have hat : at_ ([⟨140, 150, 0⟩, ⟨150, 160, 1⟩, ⟨160, 200, 0⟩, ⟨200, 210, -1⟩] : List Pc) 1 = ⟨150, 160, 1⟩ := rfl
  generalize ([⟨140, 150, 0⟩, ⟨150, 160, 1⟩, ⟨160, 200, 0⟩, ⟨200, 210, -1⟩] : List Pc) = ps at p4 hl4 hat
  have hlk := p4.sl.lenK
  rw [hl4] at hlk
  have hld := p4.sl.load0 shp34 (by omega) (by omega) (z := 1) (by omega) (by omega)
  rw [hat] at hld
  have hix := fun P t b he k => p4.sl.ix (P := P) (t := t) (e := 34) (b := b) he (z := 1) (k := k) (by omega) (by omega)
  simp (disch := omega) [-hset_if, -Bool.decide_and, hset_ne]
  refine next_ok h1 hD hlen ?_
  rw [wl_n1]
  simp (disch := omega) [-hset_if, -Bool.decide_and, hset_ne]
  refine next_ok h1 hD hlen ?_
  rw [wl_n2]
  simp (disch := omega) [-hset_if, -Bool.decide_and, hset_ne, hlk, hld, hix _ _ _ elemS25]
  refine at_ok h1 hD hlen ?_
  rw [wl_a1]
  simp (disch := omega) [-hset_if, -Bool.decide_and, hset_ne]
  refine at_ok h1 hD hlen ?_
  rw [wl_a2]
  simp (disch := omega) [-hset_if, -Bool.decide_and, hset_ne]
  exact hr.fin rfl (by omega) (fun i hi => by rw [p2 i (by omega)]; exact hfr i hi)
theorem awake_ok (hk : K (.bool true) n H) : ACall ⟨Try.prog, w0⟩ 10 [] K n H := ACall.res (fun _ h => awake_r h) (by simp) hk
end Go.Aw.S34
