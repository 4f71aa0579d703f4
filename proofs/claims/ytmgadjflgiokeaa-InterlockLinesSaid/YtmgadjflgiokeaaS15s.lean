/-
  Chapter 15: fits.
-/
import Derived.Test.YtmgadjflgiokeaaS15r
namespace Go.Aw.S15
open Go.RowKit Go.Proofs Go.Aw.Tab
set_option linter.unusedSimpArgs false
set_option linter.unusedVariables false
set_option maxRecDepth 10000
set_option maxHeartbeats 1000000
set_option pp.deepTerms false
set_option pp.deepTerms.threshold 4
set_option pp.maxSteps 1500
variable {w0 : World} {n : Nat} {H : Heap} {K : Value → Nat → Heap → Prop}
variable {pv ov : Value} {nm : ByteArray} {ps : List ByteArray} {dead : Int} {D E : Nat → Prop}
/-- A list of numbers and the slice that shows it. -/
structure IRow where
  val : Value
  xs : List Int
  deriving Inhabited
def IRow.cells (r : IRow) : List Value := [r.val]
attribute [local simp] IRow.cells intC
def lvlB (x : Int) : Bool := decide (0 ≤ x ∧ x ≤ 18)
def rowB (np : Nat) (xs : List Int) : Bool := decide (xs.length = np) && xs.all lvlB
def fitsB (np : Nat) (dead now : Int) (rows : List (List Int)) : Bool := decide (np ≤ 20 ∧ 0 ≤ dead ∧ dead ≤ 3600 ∧ 0 ≤ now ∧ now ≤ 1000000 ∧ rows.length ≤ 40) && rows.all (rowB np)
/-- A flat result, and the heap as it was. -/
theorem Fin.ret {n0 n : Nat} {K : Value → Nat → Heap → Prop} {x y : Value} {H0 H : Heap} (hU : ∀ i, i < n0 → (H0 i).und n0) (hk : K x n0 H0) (hu : Und n0 y) (e : x = y) (hn : n0 ≤ n) (hH : ∀ i, i < n0 → H i = H0 i) : Fin n0 K y n H := Fin.same hU hu hn hH (e ▸ hk)
theorem fits_ok {now : Int} {rows : List IRow} (hp : SlR ⟨Try.prog, w0⟩ H E 1 strC pv ps) (hs : SlR ⟨Try.prog, w0⟩ H D 1 IRow.cells ov rows) (hq : ∀ x ∈ rows, SlR ⟨Try.prog, w0⟩ H D 1 intC x.val x.xs) (hD : ∀ i, D i → i < n) (hE : ∀ i, E i → i < n)
    (hk : K (.bool (fitsB ps.length dead now (rows.map (·.xs)))) n H) :
    ACall ⟨Try.prog, w0⟩ 24 [.agg #[.string nm, pv, .int .i64 dead], .int .i64 now, ov] K n H := by
  have hpc := hp.cells
  have hsc := hs.cells
  refine ACall.go Try.func24 rfl Try.ntmps24 Try.results24 (by simp) fun hU hu J0 => ?_
  simp (disch := omega) [-hset_if, -Bool.decide_and, hset_ne, hpc, hsc, hp.lenK, hs.lenK]
  repeat' (first | (with_reducible intro _; first | (exfalso; omega) | (simp (disch := omega) [-hset_if, -Bool.decide_and, hset_ne, hpc, hsc, hp.lenK, hs.lenK]) | skip) | with_reducible apply cif_dec | with_reducible apply cif_beq | with_reducible apply cif_bne | with_reducible apply cif_var | with_reducible apply gif_dec | with_reducible apply gif_ndec | with_reducible apply gif_beq | with_reducible apply gif_bne | with_reducible apply gif_nbeq | with_reducible apply gif_var)
  all_goals try (refine Fin.ret hU hk (by simp) ?_ (by omega) (fun i hi => by simp (disch := omega) only [hset_ne]); simp [fitsB]; grind)
  have hf : fitsB ps.length dead now (rows.map (·.xs)) = (rows.map (·.xs)).all (rowB ps.length) := by simp [fitsB]; omega
  rw [hf] at hk
  have hp0 : SlR ⟨Try.prog, w0⟩ (hset n (.cells [.string nm, pv, .int .i64 dead] 24 1) H) E 1 strC pv ps := hp.frame (fun i hi => by have := hE i hi; simp (disch := omega) [-hset_if, -Bool.decide_and, hset_ne])
  have hs0 : SlR ⟨Try.prog, w0⟩ (hset n (.cells [.string nm, pv, .int .i64 dead] 24 1) H) D 1 IRow.cells ov rows := hs.frame (fun i hi => by have := hD i hi; simp (disch := omega) [-hset_if, -Bool.decide_and, hset_ne])
  have hq0 : ∀ x ∈ rows, SlR ⟨Try.prog, w0⟩ (hset n (.cells [.string nm, pv, .int .i64 dead] 24 1) H) D 1 intC x.val x.xs := fun x hx => (hq x hx).frame (fun i hi => by have := hD i hi; simp (disch := omega) [-hset_if, -Bool.decide_and, hset_ne])
  have hg : hset n (.cells [.string nm, pv, .int .i64 dead] 24 1) H n = .cells [.string nm, pv, .int .i64 dead] 24 1 := hset_same _ _ _
  have hfr : ∀ i, i < n → hset n (.cells [.string nm, pv, .int .i64 dead] 24 1) H i = H i := (fun i hi => by simp (disch := omega) only [hset_ne])
  generalize hset n (.cells [.string nm, pv, .int .i64 dead] 24 1) H = G at hp0 hs0 hq0 hg hfr ⊢
  refine AW.while (σ := Nat) (fun j => rows.length - j) (fun j => [(2, ov), (3, .pointer (some ⟨new n, 0, none⟩)), (7, .int .i64 j)])
    (fun j n1 H1 => n1 = n + 1 ∧ H1 = G ∧ j ≤ rows.length ∧ K (.bool (((rows.drop j).map (·.xs)).all (rowB ps.length))) n H) 0 ?_ ?_ ?_
  · simp (disch := omega) [-hset_if, -Bool.decide_and, hset_ne]
  · exact ⟨rfl, rfl, by omega, hk⟩
  clear hk
  rintro j n1 H1 ⟨rfl, rfl, g1, hk⟩
  simp (disch := omega) [-hset_if, -Bool.decide_and, hset_ne, hs0.lenK]
  refine cif_dec (fun h => ?_) (fun h => ?_)
  · rw [drop_at h, List.map_cons, List.all_cons, rowB] at hk
    have hx : at_ rows (j : Int) ∈ rows := by rw [at_nat h]; exact List.getElem_mem _
    have hr := hq0 _ hx
    simp (disch := omega) [-hset_if, -Bool.decide_and, hset_ne]
    refine AW.draw (X := ⟨_, 78, _, _⟩) (id := 6) mixed (.take 0 <| .take 1 <| .take 2 <| .take 3 <| .take 4 <| .take 5 <| .take 6 <| .take 7 <| .take 8 <| .done) (by kernel_rfl) ?_
    simp (disch := omega) [-hset_if, -Bool.decide_and, hset_ne, hs0.ix elemS58, hs0.load0 shp60, hr.lenK, hg, hp0.lenK]
    refine cif_bne (fun h1 => ?_) (fun h1 => ?_)
    · simp (disch := omega) [-hset_if, -Bool.decide_and, hset_ne]
      have e1 : ((at_ rows (j : Int)).xs.length : Int) = ps.length := h1
      rw [decide_eq_true (by omega), Bool.true_and] at hk
      refine AW.while (σ := Nat) (fun k => (at_ rows (j : Int)).xs.length - k) (fun k => [(2, ov), (3, .pointer (some ⟨new n, 0, none⟩)), (7, .int .i64 j), (8, .int .i64 k)])
        (fun k n2 H2 => n2 = n + 1 ∧ H2 = H1 ∧ k ≤ (at_ rows (j : Int)).xs.length ∧ K (.bool (((at_ rows (j : Int)).xs.drop k).all lvlB && ((rows.drop (j + 1)).map (·.xs)).all (rowB ps.length))) n H) 0 ?_ ?_ ?_
      · simp (disch := omega) [-hset_if, -Bool.decide_and, hset_ne]
      · exact ⟨rfl, rfl, by omega, hk⟩
      clear hk
      rintro k n1 H1 ⟨rfl, rfl, g2, hk⟩
      simp (disch := omega) [-hset_if, -Bool.decide_and, hset_ne, hs0.ix elemS58, hs0.load0 shp60, hr.lenK]
      refine cif_dec (fun h2 => ?_) (fun h2 => ?_)
      · rw [drop_at h2, List.all_cons, lvlB] at hk
        simp (disch := omega) [-hset_if, -Bool.decide_and, hset_ne, hs0.ix elemS58, hs0.load0 shp60, hr.ix elemS60, hr.load0 shp3]
        repeat' (first | (with_reducible intro _; first | (exfalso; omega) | (simp (disch := omega) [-hset_if, -Bool.decide_and, hset_ne, hs0.ix elemS58, hs0.load0 shp60, hr.ix elemS60, hr.load0 shp3]) | skip) | with_reducible apply cif_dec | with_reducible apply cif_beq | with_reducible apply cif_bne | with_reducible apply cif_var | with_reducible apply gif_dec | with_reducible apply gif_ndec | with_reducible apply gif_beq | with_reducible apply gif_bne | with_reducible apply gif_nbeq | with_reducible apply gif_var)
        · refine Fin.ret hU hk (by simp) ?_ (by omega) hfr
          simp; omega
        · refine Fin.ret hU hk (by simp) ?_ (by omega) hfr
          simp; omega
        · refine Next.mk (k + 1) (by first | omega | (simp only; omega)) (by simp (disch := omega) [-hset_if, -Bool.decide_and, hset_ne]) ⟨rfl, rfl, by omega, ?_⟩
          rw [decide_eq_true (by omega), Bool.true_and] at hk
          first | exact hk | simpa using hk
      · rw [List.drop_of_length_le (by omega)] at hk
        simp (disch := omega) [-hset_if, -Bool.decide_and, hset_ne]
        refine Next.mk (j + 1) (by first | omega | (simp only; omega)) (by simp (disch := omega) [-hset_if, -Bool.decide_and, hset_ne]) ⟨rfl, rfl, by omega, ?_⟩
        simpa using hk
    · simp (disch := omega) [-hset_if, -Bool.decide_and, hset_ne]
      refine Fin.ret hU hk (by simp) ?_ (by omega) hfr
      simp; omega
  · simp (disch := omega) [-hset_if, -Bool.decide_and, hset_ne]
    rw [List.drop_of_length_le (by omega)] at hk
    exact Fin.ret hU hk (by simp) (by simp) (by omega) hfr
end Go.Aw.S15
