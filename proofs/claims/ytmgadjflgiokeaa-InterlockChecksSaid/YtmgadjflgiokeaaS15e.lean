/-
  Chapter 15, the reference: level, formed, winner.
-/
import Derived.Test.YtmgadjflgiokeaaS15d
namespace Go.Aw.S15
open Go.RowKit Go.Proofs Go.Aw.Tab
set_option linter.unusedSimpArgs false
set_option linter.unusedVariables false
set_option maxRecDepth 10000
set_option maxHeartbeats 1000000
set_option pp.deepTerms false
set_option pp.deepTerms.threshold 4
set_option pp.maxSteps 1500
attribute [local simp] Req.cells
variable {w0 : World} {n : Nat} {H : Heap} {K : Value → Nat → Heap → Prop}
variable {pv av : Value} {D E : Nat → Prop} {nm : ByteArray} {ps : List ByteArray} {rs : List Req} {dead on left now i : Int}
def lvlOf (r : Req) : Int := if asksB r then r.lvl else 99
def levelR (rs : List Req) (i : Int) : Int := if i < 0 then 99 else lvlOf (at_ rs i)
theorem level_ok (hs : SlR ⟨Try.prog, w0⟩ H D 3 Req.cells av rs) (h1 : i < rs.length) (hk : K (.int .i64 (levelR rs i)) n H) : ACall ⟨Try.prog, w0⟩ 73 [av, .int .i64 i] K n H := by
  refine ACall.run Try.func73 rfl Try.ntmps73 Try.results73 (by simp) fun J0 => ?_
  simp (disch := omega) [-hset_if, -Bool.decide_and, hset_ne]
  refine gif_dec (fun h => ?_) (fun h => ?_)
  · simp (disch := omega) [-hset_if, -Bool.decide_and, hset_ne]
    refine Fin_id ?_
    rwa [show levelR rs i = 99 from if_pos h] at hk
  · simp (disch := omega) [-hset_if, -Bool.decide_and, hset_ne, hs.ix elemS25, hs.load shp3, hs.load shp2, hs.load0 shp3, Addr.add_add]
    refine gif_bne (fun h2 => ?_) (fun h2 => ?_)
    · simp (disch := omega) [-hset_if, -Bool.decide_and, hset_ne, hs.ix elemS25, hs.load shp3, hs.load shp2, hs.load0 shp3, Addr.add_add, h2]
      refine cif_bne (fun h3 => ?_) (fun h3 => ?_)
      · simp (disch := omega) [-hset_if, -Bool.decide_and, hset_ne, hs.ix elemS25, hs.load shp3, hs.load shp2, hs.load0 shp3, Addr.add_add]
        refine Fin_id ?_
        rwa [show levelR rs i = (at_ rs i).lvl from by rw [levelR, if_neg h, lvlOf, if_pos (show asksB (at_ rs i) = true from decide_eq_true ⟨h2, h3⟩)]] at hk
      · simp (disch := omega) [-hset_if, -Bool.decide_and, hset_ne]
        refine Fin_id ?_
        rwa [show levelR rs i = 99 from by rw [levelR, if_neg h, lvlOf, if_neg (fun hc => h3 (of_decide_eq_true hc).2)]] at hk
    · simp (disch := omega) [-hset_if, -Bool.decide_and, hset_ne]
      refine Fin_id ?_
      rwa [show levelR rs i = 99 from by rw [levelR, if_neg h, lvlOf, if_neg (fun hc => h2 (of_decide_eq_true hc).1)]] at hk
theorem formedB_bad {np : Nat} {j : Nat} (h : j < rs.length) (hb : okLvl (at_ rs (j : Int)) = false) : formedB np dead on left rs = false := by
  refine decide_eq_false fun hc => ?_
  have := List.any_eq_false.mp hc.2.2.2.2.2.2 (at_ rs (j : Int)) (by rw [at_nat h]; exact List.getElem_mem _)
  simp [hb] at this
theorem formedB_all {np : Nat} (h0 : (rs.length : Int) = np) (h1 : -1 ≤ on) (h2 : on < rs.length) (h3 : 0 ≤ left) (h4 : 0 ≤ dead) (h5 : dead ≤ 3600) (h6 : ∀ q, q < rs.length → okLvl (at_ rs (q : Int)) = true) : formedB np dead on left rs = true := by
  refine decide_eq_true ⟨h0, h1, by omega, h3, h4, h5, ?_⟩
  refine List.any_eq_false.mpr fun r hr => ?_
  obtain ⟨q, hq, rfl⟩ := List.mem_iff_getElem.mp hr
  have := h6 q hq
  rw [at_nat hq] at this
  simp [this]
theorem formedR_ok (hp : SlR ⟨Try.prog, w0⟩ H E 1 strC pv ps) (hs : SlR ⟨Try.prog, w0⟩ H D 3 Req.cells av rs) (hD : ∀ i, D i → i < n) (hb : rs.length < 9223372036854775807)
    (hk : ∀ n' H', n ≤ n' → (∀ i, i < n → H' i = H i) → K (.bool (formedB ps.length dead on left rs)) n' H') :
    ACall ⟨Try.prog, w0⟩ 37 [.agg #[.string nm, pv, .int .i64 dead], .agg #[.int .i64 on, .int .i64 left], av] K n H := by
  have no : ∀ n' H', n ≤ n' → (∀ i, i < n → H' i = H i) → formedB ps.length dead on left rs = false → K (.bool false) n' H' := fun n' H' h1 h2 h3 => by rw [← h3]; exact hk n' H' h1 h2
  have hpc := hp.cells
  have hsc := hs.cells
  refine ACall.run Try.func37 rfl Try.ntmps37 Try.results37 (by simp) fun J0 => ?_
  simp (disch := omega) [-hset_if, -Bool.decide_and, hset_ne, hs.lenK, hp.lenK, hpc, hsc]
  refine gif_bne (fun h => ?_) (fun h => ?_)
  · simp (disch := omega) [-hset_if, -Bool.decide_and, hset_ne, hs.lenK, hp.lenK]
    refine gif_dec (fun h1 => ?_) (fun h1 => ?_)
    · simp (disch := omega) [-hset_if, -Bool.decide_and, hset_ne]
      refine Fin_id (no _ _ (by omega) (fun i hi => by simp (disch := omega) only [hset_ne]) (decide_eq_false (by omega)))
    simp (disch := omega) [-hset_if, -Bool.decide_and, hset_ne, hs.lenK, hp.lenK]
    refine gif_dec (fun h2 => ?_) (fun h2 => ?_)
    · simp (disch := omega) [-hset_if, -Bool.decide_and, hset_ne]
      refine Fin_id (no _ _ (by omega) (fun i hi => by simp (disch := omega) only [hset_ne]) (decide_eq_false (by omega)))
    simp (disch := omega) [-hset_if, -Bool.decide_and, hset_ne]
    refine gif_dec (fun h3 => ?_) (fun h3 => ?_)
    · simp (disch := omega) [-hset_if, -Bool.decide_and, hset_ne]
      refine Fin_id (no _ _ (by omega) (fun i hi => by simp (disch := omega) only [hset_ne]) (decide_eq_false (by omega)))
    simp (disch := omega) [-hset_if, -Bool.decide_and, hset_ne]
    refine gif_dec (fun h4 => ?_) (fun h4 => ?_)
    · simp (disch := omega) [-hset_if, -Bool.decide_and, hset_ne]
      refine Fin_id (no _ _ (by omega) (fun i hi => by simp (disch := omega) only [hset_ne]) (decide_eq_false (by omega)))
    simp (disch := omega) [-hset_if, -Bool.decide_and, hset_ne]
    refine cif_dec (fun h5 => ?_) (fun h5 => ?_)
    · simp (disch := omega) [-hset_if, -Bool.decide_and, hset_ne]
      refine Fin_id (no _ _ (by omega) (fun i hi => by simp (disch := omega) only [hset_ne]) (decide_eq_false (by omega)))
    simp (disch := omega) [-hset_if, -Bool.decide_and, hset_ne]
    refine AW.while (σ := Nat) (fun j => rs.length - j) (fun j => [(2, av), (7, .int .i64 j)])
      (fun j n1 H1 => j ≤ rs.length ∧ n + 2 ≤ n1 ∧ (∀ i, i < n → H1 i = H i) ∧ ∀ q, q < j → okLvl (at_ rs (q : Int)) = true) 0 ?_ ?_ ?_
    · simp (disch := omega) [-hset_if, -Bool.decide_and, hset_ne]
    · exact ⟨by omega, by omega, (fun i hi => by simp (disch := omega) only [hset_ne]), fun q hq => by omega⟩
    rintro j n1 H1 ⟨g1, g2, g3, g4⟩
    have hs1 : SlR ⟨Try.prog, w0⟩ H1 D 3 Req.cells av rs := hs.frame (fun i hi => g3 i (hD i hi))
    simp (disch := omega) [-hset_if, -Bool.decide_and, hset_ne, hs1.lenK]
    refine cif_dec (fun hj => ?_) (fun hj => ?_)
    · simp (disch := omega) [-hset_if, -Bool.decide_and, hset_ne, hs1.ix elemS25, hs1.load shp3, hs1.load0 shp3, Addr.add_add]
      refine gif_dec (fun h6 => ?_) (fun h6 => ?_)
      · simp (disch := omega) [-hset_if, -Bool.decide_and, hset_ne]
        refine Fin_id (no _ _ (by omega) g3 (formedB_bad hj (by simp [okLvl]; omega)))
      simp (disch := omega) [-hset_if, -Bool.decide_and, hset_ne, hs1.ix elemS25, hs1.load shp3, hs1.load0 shp3, Addr.add_add]
      refine cif_dec (fun h7 => ?_) (fun h7 => ?_)
      · simp (disch := omega) [-hset_if, -Bool.decide_and, hset_ne]
        refine Fin_id (no _ _ (by omega) g3 (formedB_bad hj (by simp [okLvl]; omega)))
      simp (disch := omega) [-hset_if, -Bool.decide_and, hset_ne]
      refine Next.mk (j + 1) (by first | omega | (simp only; omega)) (by simp (disch := omega) [-hset_if, -Bool.decide_and, hset_ne]) ⟨by omega, by omega, g3, fun q hq => ?_⟩
      by_cases e : q < j
      · exact g4 q e
      · obtain rfl : q = j := by omega
        simp [okLvl]; omega
    · simp (disch := omega) [-hset_if, -Bool.decide_and, hset_ne]
      refine Fin_id ?_
      rw [show formedB ps.length dead on left rs = true from formedB_all (by omega) (by omega) (by omega) (by omega) (by omega) (by omega) (fun q hq => g4 q (by omega))] at hk
      exact hk _ _ (by omega) g3
  · simp (disch := omega) [-hset_if, -Bool.decide_and, hset_ne]
    refine Fin_id (no _ _ (by omega) (fun i hi => by simp (disch := omega) only [hset_ne]) (decide_eq_false (by omega)))
end Go.Aw.S15
