/-
  Chapter 15: the reference's Check.
-/
import Derived.Test.YtmgadjflgiokeaaS15ch
namespace Go.Aw.S15
open Go.RowKit Go.Proofs Go.Aw.Tab
set_option linter.unusedSimpArgs false
set_option linter.unusedVariables false
set_option maxRecDepth 10000
set_option maxHeartbeats 2000000
set_option pp.deepTerms false
set_option pp.deepTerms.threshold 4
set_option pp.maxSteps 1500
attribute [local simp] Gr.cells Pt.cells strC
variable {w0 : World} {n : Nat} {H : Heap} {K : Value → Nat → Heap → Prop} {D E : Nat → Prop} {gs : List Gr} {pts : List Pt} {s : ByteArray}
theorem RCheck_ok {pv gv : Value} (hp : PtsR H w0 D pv pts) (hs : GrsR H w0 E gv gs) (hD : ∀ i, D i → i < n) (hE : ∀ i, E i → i < n) (hk : K (.int .i64 (checkG pts gs)) n H) : ACall ⟨Try.prog, w0⟩ 33 [pv, gv] K n H := by
  refine ACall.res (fun K' hr => ?_) (by simp) hk
  have hlb := hs.lb
  have hpl := hp.lb
  refine ACall.run Try.func33 rfl Try.ntmps33 Try.results33 (by simp) fun J0 => ?_
  simp (disch := omega) [-hset_if, -Bool.decide_and, hset_ne, hs.sl.lenK]
  by_cases d0 : 16 < gs.length
  · have d1 : (16 : Int) < (gs.length : Int) := by omega
    simp (disch := omega) [-hset_if, -Bool.decide_and, hset_ne, d0, d1]
    simp (disch := omega) [-hset_if, -Bool.decide_and, hset_ne]
    refine hr.fin ?_ (by omega) (fun _ _ => rfl)
    rw [ck7 (many_len d1)]
  have d1 : ¬ (16 : Int) < (gs.length : Int) := by omega
  simp (disch := omega) [-hset_if, -Bool.decide_and, hset_ne, d0, d1]
  refine AW.while (σ := Nat) (fun j => gs.length - j) (fun j => [(0, pv), (1, gv), (5, .int .i64 j)]) (fun j n1 H1 => j ≤ gs.length ∧ n = n1 ∧ H = H1 ∧ ∀ q : Nat, q < j → (at_ gs (q : Int)).ps.length ≤ 16) 0 ?_ ?_ ?_
  · simp (disch := omega) [-hset_if, -Bool.decide_and, hset_ne]
  · exact ⟨by omega, rfl, rfl, fun q hq => by omega⟩
  rintro j n1 H1 ⟨g1, rfl, rfl, g4⟩
  simp (disch := omega) [-hset_if, -Bool.decide_and, hset_ne, hs.sl.lenK]
  refine cif_dec (fun h => ?_) (fun h => ?_)
  · obtain ⟨r, hr2⟩ : ∃ r, at_ gs (j : Int) = r := ⟨_, rfl⟩
    have hR := hs.ps r (hr2 ▸ at_mem h)
    simp (disch := omega) [-hset_if, -Bool.decide_and, hset_ne, hs.sl.ix elemS72, hs.sl.load shp22, hr2, hR.lenK]
    by_cases h1 : 16 < r.ps.length
    · have h2 : (16 : Int) < (r.ps.length : Int) := by omega
      simp (disch := omega) [-hset_if, -Bool.decide_and, hset_ne, h1, h2]
      simp (disch := omega) [-hset_if, -Bool.decide_and, hset_ne]
      refine hr.fin ?_ (by omega) (fun _ _ => rfl)
      rw [ck7 (many_hit h (by rw [hr2]; exact h2))]
    · have h2 : ¬ (16 : Int) < (r.ps.length : Int) := by omega
      simp (disch := omega) [-hset_if, -Bool.decide_and, hset_ne, h1, h2]
      refine Next.mk (j + 1) (by first | omega | (dsimp only; omega)) (by simp (disch := omega) [-hset_if, -Bool.decide_and, hset_ne]) ⟨by omega, rfl, rfl, ?_⟩
      intro q hq
      by_cases e : q < j
      · exact g4 q e
      · obtain rfl : q = j := by omega
        rw [hr2]; omega
  have f1 : manyB gs = false := many_no d1 (fun q hq => by have := g4 q (by omega); omega)
  clear g4 g1 h d0 d1
  simp (disch := omega) [-hset_if, -Bool.decide_and, hset_ne]
  refine AW.while (σ := Nat) (fun j => gs.length - j) (fun j => [(0, pv), (1, gv), (6, .int .i64 j)]) (fun j n1 H1 => j ≤ gs.length ∧ n = n1 ∧ H = H1 ∧ ∀ q : Nat, q < j → nameB (at_ gs (q : Int)).nm = true ∧ ∀ k : Nat, k < (at_ gs (q : Int)).ps.length → nameB (at_ (at_ gs (q : Int)).ps (k : Int)) = true) 0 ?_ ?_ ?_
  · simp (disch := omega) [-hset_if, -Bool.decide_and, hset_ne]
  · exact ⟨by omega, rfl, rfl, fun q hq => by omega⟩
  clear j
  rintro j n1 H1 ⟨g1, rfl, rfl, g4⟩
  simp (disch := omega) [-hset_if, -Bool.decide_and, hset_ne, hs.sl.lenK]
  refine cif_dec (fun h => ?_) (fun h => ?_)
  · obtain ⟨r, hr2⟩ : ∃ r, at_ gs (j : Int) = r := ⟨_, rfl⟩
    have hR := hs.ps r (hr2 ▸ at_mem h)
    have hRl := hs.pb r (hr2 ▸ at_mem h)
    simp (disch := omega) [-hset_if, -Bool.decide_and, hset_ne, hs.sl.ix elemS72, hs.sl.load shp9, hr2]
    refine NameR_ok ?_
    cases h1 : nameB r.nm with
    | false =>
      simp (disch := omega) [-hset_if, -Bool.decide_and, hset_ne]
      simp (disch := omega) [-hset_if, -Bool.decide_and, hset_ne]
      refine hr.fin ?_ (by omega) (fun _ _ => rfl)
      rw [ck4 f1 (badN_nm h (by rw [hr2]; exact h1))]
    | true =>
    simp (disch := omega) [-hset_if, -Bool.decide_and, hset_ne]
    refine AW.while (σ := Nat) (fun k => r.ps.length - k) (fun k => [(0, pv), (1, gv), (6, .int .i64 j), (7, .int .i64 k)]) (fun k n1 H1 => k ≤ r.ps.length ∧ n = n1 ∧ H = H1 ∧ ∀ q : Nat, q < k → nameB (at_ r.ps (q : Int)) = true) 0 ?_ ?_ ?_
    · simp (disch := omega) [-hset_if, -Bool.decide_and, hset_ne]
    · exact ⟨by omega, rfl, rfl, fun q hq => by omega⟩
    rintro k n1 H1 ⟨k1, rfl, rfl, k4⟩
    simp (disch := omega) [-hset_if, -Bool.decide_and, hset_ne, hs.sl.ix elemS72, hs.sl.load shp22, hr2, hR.lenK]
    refine cif_dec (fun h2 => ?_) (fun h2 => ?_)
    · simp (disch := omega) [-hset_if, -Bool.decide_and, hset_ne, hs.sl.ix elemS72, hs.sl.load shp22, hr2, hR.ix elemS22, hR.load0 shp9]
      refine NameR_ok ?_
      cases h3 : nameB (at_ r.ps (k : Int)) with
      | false =>
        simp (disch := omega) [-hset_if, -Bool.decide_and, hset_ne]
        simp (disch := omega) [-hset_if, -Bool.decide_and, hset_ne]
        refine hr.fin ?_ (by omega) (fun _ _ => rfl)
        rw [ck4 f1 (badN_pt h (k := k) (by rw [hr2]; exact h2) (by rw [hr2]; exact h3))]
      | true =>
        simp (disch := omega) [-hset_if, -Bool.decide_and, hset_ne]
        refine Next.mk (k + 1) (by first | omega | (dsimp only; omega)) (by simp (disch := omega) [-hset_if, -Bool.decide_and, hset_ne]) ⟨by omega, rfl, rfl, ?_⟩
        intro q hq
        by_cases e : q < k
        · exact k4 q e
        · obtain rfl : q = k := by omega
          exact h3
    · simp (disch := omega) [-hset_if, -Bool.decide_and, hset_ne]
      refine Next.mk (j + 1) (by first | omega | (dsimp only; omega)) (by simp (disch := omega) [-hset_if, -Bool.decide_and, hset_ne]) ⟨by omega, rfl, rfl, ?_⟩
      intro q hq
      by_cases e : q < j
      · exact g4 q e
      · obtain rfl : q = j := by omega
        rw [hr2]; exact ⟨h1, fun q hq => k4 q (by omega)⟩
  have f2 : badN gs = false := badN_no (fun q hq => g4 q (by omega))
  clear g4 g1 h
  simp (disch := omega) [-hset_if, -Bool.decide_and, hset_ne]
  refine AW.while (σ := Nat) (fun j => gs.length - j) (fun j => [(0, pv), (1, gv), (8, .int .i64 j)]) (fun j n1 H1 => j ≤ gs.length ∧ n = n1 ∧ H = H1 ∧ ∀ q : Nat, q < j → 0 ≤ (at_ gs (q : Int)).dd ∧ (at_ gs (q : Int)).dd ≤ 3600) 0 ?_ ?_ ?_
  · simp (disch := omega) [-hset_if, -Bool.decide_and, hset_ne]
  · exact ⟨by omega, rfl, rfl, fun q hq => by omega⟩
  clear j
  rintro j n1 H1 ⟨g1, rfl, rfl, g4⟩
  simp (disch := omega) [-hset_if, -Bool.decide_and, hset_ne, hs.sl.lenK]
  refine cif_dec (fun h => ?_) (fun h => ?_)
  · obtain ⟨r, hr2⟩ : ∃ r, at_ gs (j : Int) = r := ⟨_, rfl⟩
    simp (disch := omega) [-hset_if, -Bool.decide_and, hset_ne, hs.sl.ix elemS72, hs.sl.load shp3, hr2]
    refine gif_dec (fun h1 => ?_) (fun h1 => ?_)
    · simp (disch := omega) [-hset_if, -Bool.decide_and, hset_ne]
      refine hr.fin ?_ (by omega) (fun _ _ => rfl)
      rw [ck6 f1 f2 (badD_hit h (by rw [hr2]; exact .inl h1))]
    have h1' : 0 ≤ r.dd := by omega
    simp (disch := omega) [-hset_if, -Bool.decide_and, hset_ne, hs.sl.ix elemS72, hs.sl.load shp3, hr2]
    refine cif_dec (fun h2 => ?_) (fun h2 => ?_)
    · simp (disch := omega) [-hset_if, -Bool.decide_and, hset_ne]
      refine hr.fin ?_ (by omega) (fun _ _ => rfl)
      rw [ck6 f1 f2 (badD_hit h (by rw [hr2]; exact .inr h2))]
    · have h2' : r.dd ≤ 3600 := by omega
      simp (disch := omega) [-hset_if, -Bool.decide_and, hset_ne]
      refine Next.mk (j + 1) (by first | omega | (dsimp only; omega)) (by simp (disch := omega) [-hset_if, -Bool.decide_and, hset_ne]) ⟨by omega, rfl, rfl, ?_⟩
      intro q hq
      by_cases e : q < j
      · exact g4 q e
      · obtain rfl : q = j := by omega
        rw [hr2]; exact ⟨h1', h2'⟩
  have f3 : badD gs = false := badD_no (fun q hq => g4 q (by omega))
  clear g4 g1 h
  simp (disch := omega) [-hset_if, -Bool.decide_and, hset_ne]
  refine AW.while (σ := Nat) (fun j => gs.length - j) (fun j => [(0, pv), (1, gv), (9, .int .i64 j)]) (fun j n1 H1 => j ≤ gs.length ∧ n = n1 ∧ H = H1 ∧ ∀ q : Nat, q < j → 2 ≤ (at_ gs (q : Int)).ps.length) 0 ?_ ?_ ?_
  · simp (disch := omega) [-hset_if, -Bool.decide_and, hset_ne]
  · exact ⟨by omega, rfl, rfl, fun q hq => by omega⟩
  clear j
  rintro j n1 H1 ⟨g1, rfl, rfl, g4⟩
  simp (disch := omega) [-hset_if, -Bool.decide_and, hset_ne, hs.sl.lenK]
  refine cif_dec (fun h => ?_) (fun h => ?_)
  · obtain ⟨r, hr2⟩ : ∃ r, at_ gs (j : Int) = r := ⟨_, rfl⟩
    have hR := hs.ps r (hr2 ▸ at_mem h)
    simp (disch := omega) [-hset_if, -Bool.decide_and, hset_ne, hs.sl.ix elemS72, hs.sl.load shp22, hr2, hR.lenK]
    by_cases h1 : r.ps.length < 2
    · have h2 : (r.ps.length : Int) < 2 := by omega
      simp (disch := omega) [-hset_if, -Bool.decide_and, hset_ne, h1, h2]
      simp (disch := omega) [-hset_if, -Bool.decide_and, hset_ne]
      refine hr.fin ?_ (by omega) (fun _ _ => rfl)
      rw [ck1 f1 f2 f3 (few_hit h (by rw [hr2]; exact h2))]
    · have h2 : ¬ (r.ps.length : Int) < 2 := by omega
      simp (disch := omega) [-hset_if, -Bool.decide_and, hset_ne, h1, h2]
      refine Next.mk (j + 1) (by first | omega | (dsimp only; omega)) (by simp (disch := omega) [-hset_if, -Bool.decide_and, hset_ne]) ⟨by omega, rfl, rfl, ?_⟩
      intro q hq
      by_cases e : q < j
      · exact g4 q e
      · obtain rfl : q = j := by omega
        rw [hr2]; omega
  have f4 : fewB gs = false := few_no (fun q hq => by have := g4 q (by omega); omega)
  clear g4 g1 h
  simp (disch := omega) [-hset_if, -Bool.decide_and, hset_ne]
  refine AW.while (σ := Nat) (fun j => gs.length - j) (fun j => [(0, pv), (1, gv), (10, .int .i64 j)]) (fun j n1 H1 => j ≤ gs.length ∧ n = n1 ∧ H = H1 ∧ IncN gs j ∧ (flatP (gs.take j)).Nodup) 0 ?_ ?_ ?_
  · simp (disch := omega) [-hset_if, -Bool.decide_and, hset_ne]
  · exact ⟨by omega, rfl, rfl, fun q hq => by omega, List.Pairwise.nil⟩
  clear j
  rintro j n1 H1 ⟨g1, rfl, rfl, g4, g5⟩
  simp (disch := omega) [-hset_if, -Bool.decide_and, hset_ne, hs.sl.lenK]
  refine cif_dec (fun h => ?_) (fun h => ?_)
  · obtain ⟨r, hr2⟩ : ∃ r, at_ gs (j : Int) = r := ⟨_, rfl⟩
    have hR := hs.ps r (hr2 ▸ at_mem h)
    have hRl := hs.pb r (hr2 ▸ at_mem h)
    refine AW.draw (X := ⟨_, 220, _, _⟩) (id := 31) mixed (.take 0 <| .take 1 <| .take 2 <| .take 3 <| .take 4 <| .take 5 <| .take 6 <| .take 7 <| .take 8 <| .take 9 <| .take 10 <| .take 11 <| .take 12 <| .take 13 <| .take 14 <| .take 15 <| .done) (by kernel_rfl) ?_
    by_cases hj0 : 0 < j
    · obtain ⟨q, hjq⟩ : ∃ q : Nat, j = q + 1 := ⟨j - 1, by omega⟩
      have hq : ((j : Int) - 1) = (q : Int) := by omega
      obtain ⟨r3, hr3⟩ : ∃ r, at_ gs (q : Int) = r := ⟨_, rfl⟩
      simp (disch := omega) [-hset_if, -Bool.decide_and, hset_ne, hq, hs.sl.ix elemS72, hs.sl.load shp9, hr2, hr3, hj0]
      cases c3 : ltN r3.nm r.nm with
      | false =>
        have c4 : Op.bytesLess r3.nm.toList r.nm.toList = false := c3
        have hft : twiceP gs = true := twice_inc (q := q) (by omega) (by rw [hr3, ← hjq, hr2]; exact c3)
        simp (disch := omega) [-hset_if, -Bool.decide_and, hset_ne, c4]
        simp (disch := omega) [-hset_if, -Bool.decide_and, hset_ne]
        refine hr.fin ?_ (by omega) (fun _ _ => rfl)
        rw [ck5 f1 f2 f3 f4 hft]
      | true =>
        have c4 : Op.bytesLess r3.nm.toList r.nm.toList = true := c3
        have hinc2 : IncN gs (j + 1) := by
          intro x hx
          by_cases e : x + 1 < j
          · exact g4 x e
          · obtain rfl : x = q := by omega
            rw [hr3, ← hjq, hr2]; exact c3
        simp (disch := omega) [-hset_if, -Bool.decide_and, hset_ne, c4]
        refine AW.while (σ := Nat) (fun k => r.ps.length - k) (fun k => [(0, pv), (1, gv), (10, .int .i64 j), (11, .int .i64 k)]) (fun k n1 H1 => k ≤ r.ps.length ∧ n = n1 ∧ H = H1 ∧ (ahead gs j k).Nodup) 0 ?_ ?_ ?_
        · simp (disch := omega) [-hset_if, -Bool.decide_and, hset_ne]
        · exact ⟨by omega, rfl, rfl, by rw [ahead_zero]; exact g5⟩
        rintro k n1 H1 ⟨k1, rfl, rfl, k4⟩
        simp (disch := omega) [-hset_if, -Bool.decide_and, hset_ne, hs.sl.ix elemS72, hs.sl.load shp22, hr2, hR.lenK]
        refine cif_dec (fun h2 => ?_) (fun h2 => ?_)
        · obtain ⟨s, hsr⟩ : ∃ s, at_ r.ps (k : Int) = s := ⟨_, rfl⟩
          have hkr : k < (at_ gs (j : Int)).ps.length := by rw [hr2]; exact h2
          have hss : at_ (at_ gs (j : Int)).ps (k : Int) = s := by rw [hr2]; exact hsr
          simp (disch := omega) [-hset_if, -Bool.decide_and, hset_ne, hs.sl.ix elemS72, hs.sl.load shp22, hr2, hsr, hR.ix elemS22, hR.load0 shp9]
          refine RFind_ok hs ?_
          by_cases hm : s ∈ ahead gs j k
          · have hft := twice_old h hkr (by rw [hss]; exact hm)
            have hf := find_old h hkr (by rw [hss]; exact hm)
            rw [hss] at hf
            obtain ⟨⟨a, b, e⟩, hfe⟩ : ∃ x, findG gs s = x := ⟨_, rfl⟩
            rw [hfe] at hf ⊢
            dsimp only at hf ⊢
            by_cases ha : a = (j : Int)
            · have hb : ¬ b = (k : Int) := fun e => hf ⟨ha, e⟩
              have hb' : (b != (k : Int)) = true := by simpa using hb
              have ha' : (a != (j : Int)) = false := by simp [ha]
              simp (disch := omega) [-hset_if, -Bool.decide_and, hset_ne, ha, hb, ha', hb']
              simp (disch := omega) [-hset_if, -Bool.decide_and, hset_ne]
              refine hr.fin ?_ (by omega) (fun _ _ => rfl)
              rw [ck5 f1 f2 f3 f4 hft]
            · have ha' : (a != (j : Int)) = true := by simpa using ha
              simp (disch := omega) [-hset_if, -Bool.decide_and, hset_ne, ha, ha']
              simp (disch := omega) [-hset_if, -Bool.decide_and, hset_ne]
              refine hr.fin ?_ (by omega) (fun _ _ => rfl)
              rw [ck5 f1 f2 f3 f4 hft]
          · have hf := find_new h hkr (by rw [hss]; exact hm)
            rw [hss] at hf
            rw [hf]
            simp (disch := omega) [-hset_if, -Bool.decide_and, hset_ne]
            refine Next.mk (k + 1) (by first | omega | (dsimp only; omega)) (by simp (disch := omega) [-hset_if, -Bool.decide_and, hset_ne]) ⟨by omega, rfl, rfl, ?_⟩
            rw [ahead_next hkr, hss, List.nodup_append]
            exact ⟨k4, by simp, fun a ha b hb e => by simp at hb; subst hb e; exact hm ha⟩
        · have hk0 : k = r.ps.length := by omega
          simp (disch := omega) [-hset_if, -Bool.decide_and, hset_ne]
          refine Next.mk (j + 1) (by first | omega | (dsimp only; omega)) (by simp (disch := omega) [-hset_if, -Bool.decide_and, hset_ne]) ⟨by omega, rfl, rfl, hinc2, ?_⟩
          rw [← ahead_end h, hr2, ← hk0]; exact k4
    · have hinc2 : IncN gs (j + 1) := by intro x hx; omega
      simp (disch := omega) [-hset_if, -Bool.decide_and, hset_ne, hs.sl.ix elemS72, hs.sl.load shp9, hr2, hj0]
      refine AW.while (σ := Nat) (fun k => r.ps.length - k) (fun k => [(0, pv), (1, gv), (10, .int .i64 j), (11, .int .i64 k)]) (fun k n1 H1 => k ≤ r.ps.length ∧ n = n1 ∧ H = H1 ∧ (ahead gs j k).Nodup) 0 ?_ ?_ ?_
      · simp (disch := omega) [-hset_if, -Bool.decide_and, hset_ne]
      · exact ⟨by omega, rfl, rfl, by rw [ahead_zero]; exact g5⟩
      rintro k n1 H1 ⟨k1, rfl, rfl, k4⟩
      simp (disch := omega) [-hset_if, -Bool.decide_and, hset_ne, hs.sl.ix elemS72, hs.sl.load shp22, hr2, hR.lenK]
      refine cif_dec (fun h2 => ?_) (fun h2 => ?_)
      · obtain ⟨s, hsr⟩ : ∃ s, at_ r.ps (k : Int) = s := ⟨_, rfl⟩
        have hkr : k < (at_ gs (j : Int)).ps.length := by rw [hr2]; exact h2
        have hss : at_ (at_ gs (j : Int)).ps (k : Int) = s := by rw [hr2]; exact hsr
        simp (disch := omega) [-hset_if, -Bool.decide_and, hset_ne, hs.sl.ix elemS72, hs.sl.load shp22, hr2, hsr, hR.ix elemS22, hR.load0 shp9]
        refine RFind_ok hs ?_
        by_cases hm : s ∈ ahead gs j k
        · have hft := twice_old h hkr (by rw [hss]; exact hm)
          have hf := find_old h hkr (by rw [hss]; exact hm)
          rw [hss] at hf
          obtain ⟨⟨a, b, e⟩, hfe⟩ : ∃ x, findG gs s = x := ⟨_, rfl⟩
          rw [hfe] at hf ⊢
          dsimp only at hf ⊢
          by_cases ha : a = (j : Int)
          · have hb : ¬ b = (k : Int) := fun e => hf ⟨ha, e⟩
            have hb' : (b != (k : Int)) = true := by simpa using hb
            have ha' : (a != (j : Int)) = false := by simp [ha]
            simp (disch := omega) [-hset_if, -Bool.decide_and, hset_ne, ha, hb, ha', hb']
            simp (disch := omega) [-hset_if, -Bool.decide_and, hset_ne]
            refine hr.fin ?_ (by omega) (fun _ _ => rfl)
            rw [ck5 f1 f2 f3 f4 hft]
          · have ha' : (a != (j : Int)) = true := by simpa using ha
            simp (disch := omega) [-hset_if, -Bool.decide_and, hset_ne, ha, ha']
            simp (disch := omega) [-hset_if, -Bool.decide_and, hset_ne]
            refine hr.fin ?_ (by omega) (fun _ _ => rfl)
            rw [ck5 f1 f2 f3 f4 hft]
        · have hf := find_new h hkr (by rw [hss]; exact hm)
          rw [hss] at hf
          rw [hf]
          simp (disch := omega) [-hset_if, -Bool.decide_and, hset_ne]
          refine Next.mk (k + 1) (by first | omega | (dsimp only; omega)) (by simp (disch := omega) [-hset_if, -Bool.decide_and, hset_ne]) ⟨by omega, rfl, rfl, ?_⟩
          rw [ahead_next hkr, hss, List.nodup_append]
          exact ⟨k4, by simp, fun a ha b hb e => by simp at hb; subst hb e; exact hm ha⟩
      · have hk0 : k = r.ps.length := by omega
        simp (disch := omega) [-hset_if, -Bool.decide_and, hset_ne]
        refine Next.mk (j + 1) (by first | omega | (dsimp only; omega)) (by simp (disch := omega) [-hset_if, -Bool.decide_and, hset_ne]) ⟨by omega, rfl, rfl, hinc2, ?_⟩
        rw [← ahead_end h, hr2, ← hk0]; exact k4
  have hjl : j = gs.length := by omega
  have f5 : twiceP gs = false := twice_no (by rw [← hjl]; exact g4) (by rw [← hjl]; exact g5)
  clear g4 g5 g1 h hjl
  simp (disch := omega) [-hset_if, -Bool.decide_and, hset_ne]
  refine AW.while (σ := Nat) (fun j => gs.length - j) (fun j => [(0, pv), (1, gv), (15, .int .i64 j)]) (fun j n1 H1 => j ≤ gs.length ∧ n = n1 ∧ H = H1 ∧ ∀ q : Nat, q < j → ∀ k : Nat, k < (at_ gs (q : Int)).ps.length → 0 ≤ findPt pts (at_ (at_ gs (q : Int)).ps (k : Int))) 0 ?_ ?_ ?_
  · simp (disch := omega) [-hset_if, -Bool.decide_and, hset_ne]
  · exact ⟨by omega, rfl, rfl, fun q hq => by omega⟩
  clear j
  rintro j n1 H1 ⟨g1, rfl, rfl, g4⟩
  simp (disch := omega) [-hset_if, -Bool.decide_and, hset_ne, hs.sl.lenK]
  refine cif_dec (fun h => ?_) (fun h => ?_)
  · obtain ⟨r, hr2⟩ : ∃ r, at_ gs (j : Int) = r := ⟨_, rfl⟩
    have hR := hs.ps r (hr2 ▸ at_mem h)
    have hRl := hs.pb r (hr2 ▸ at_mem h)
    simp (disch := omega) [-hset_if, -Bool.decide_and, hset_ne]
    refine AW.while (σ := Nat) (fun k => r.ps.length - k) (fun k => [(0, pv), (1, gv), (15, .int .i64 j), (16, .int .i64 k)]) (fun k n1 H1 => k ≤ r.ps.length ∧ n = n1 ∧ H = H1 ∧ ∀ q : Nat, q < k → 0 ≤ findPt pts (at_ r.ps (q : Int))) 0 ?_ ?_ ?_
    · simp (disch := omega) [-hset_if, -Bool.decide_and, hset_ne]
    · exact ⟨by omega, rfl, rfl, fun q hq => by omega⟩
    rintro k n1 H1 ⟨k1, rfl, rfl, k4⟩
    simp (disch := omega) [-hset_if, -Bool.decide_and, hset_ne, hs.sl.ix elemS72, hs.sl.load shp22, hr2, hR.lenK]
    refine cif_dec (fun h2 => ?_) (fun h2 => ?_)
    · simp (disch := omega) [-hset_if, -Bool.decide_and, hset_ne, hs.sl.ix elemS72, hs.sl.load shp22, hr2, hR.ix elemS22, hR.load0 shp9]
      refine point_ok hp ?_
      obtain ⟨p, hpe⟩ : ∃ p, findPt pts (at_ r.ps (k : Int)) = p := ⟨_, rfl⟩
      rw [hpe]
      by_cases h3 : p < 0
      · simp (disch := omega) [-hset_if, -Bool.decide_and, hset_ne, h3]
        simp (disch := omega) [-hset_if, -Bool.decide_and, hset_ne]
        refine hr.fin ?_ (by omega) (fun _ _ => rfl)
        rw [ck3 f1 f2 f3 f4 f5 (unk_hit h (k := k) (by rw [hr2]; exact h2) (by rw [hr2, hpe]; exact h3))]
      · have h3' : 0 ≤ p := by omega
        simp (disch := omega) [-hset_if, -Bool.decide_and, hset_ne, h3, h3']
        refine Next.mk (k + 1) (by first | omega | (dsimp only; omega)) (by simp (disch := omega) [-hset_if, -Bool.decide_and, hset_ne]) ⟨by omega, rfl, rfl, ?_⟩
        intro q hq
        by_cases e : q < k
        · exact k4 q e
        · obtain rfl : q = k := by omega
          rw [hpe]; exact h3'
    · simp (disch := omega) [-hset_if, -Bool.decide_and, hset_ne]
      refine Next.mk (j + 1) (by first | omega | (dsimp only; omega)) (by simp (disch := omega) [-hset_if, -Bool.decide_and, hset_ne]) ⟨by omega, rfl, rfl, ?_⟩
      intro q hq
      by_cases e : q < j
      · exact g4 q e
      · obtain rfl : q = j := by omega
        rw [hr2]; exact fun q hq => k4 q (by omega)
  have hkn : ∀ q : Nat, q < gs.length → ∀ k : Nat, k < (at_ gs (q : Int)).ps.length → 0 ≤ findPt pts (at_ (at_ gs (q : Int)).ps (k : Int)) := fun q hq => g4 q (by omega)
  have f6 : unkB pts gs = false := unk_no (fun q hq k hk => by have := hkn q hq k hk; omega)
  clear g4 g1 h
  simp (disch := omega) [-hset_if, -Bool.decide_and, hset_ne]
  refine AW.while (σ := Nat) (fun j => gs.length - j) (fun j => [(0, pv), (1, gv), (17, .int .i64 j)]) (fun j n1 H1 => j ≤ gs.length ∧ n ≤ n1 ∧ (∀ i, i < n → H1 i = H i) ∧ ∀ q : Nat, q < j → ∀ k : Nat, k < (at_ gs (q : Int)).ps.length → typeBad pts (at_ (at_ gs (q : Int)).ps (k : Int)) = false) 0 ?_ ?_ ?_
  · simp (disch := omega) [-hset_if, -Bool.decide_and, hset_ne]
  · exact ⟨by omega, by omega, fun _ _ => rfl, fun q hq => by omega⟩
  clear j
  rintro j n1 H1 ⟨g1, g2, g3, g4⟩
  have hs1 := hs.frame (H' := H1) (fun i hi => g3 i (hE i hi))
  simp (disch := omega) [-hset_if, -Bool.decide_and, hset_ne, hs1.sl.lenK]
  refine cif_dec (fun h => ?_) (fun h => ?_)
  · obtain ⟨r, hr2⟩ : ∃ r, at_ gs (j : Int) = r := ⟨_, rfl⟩
    have hRl := hs.pb r (hr2 ▸ at_mem h)
    have hkj := hkn j h
    rw [hr2] at hkj
    simp (disch := omega) [-hset_if, -Bool.decide_and, hset_ne]
    refine AW.while (σ := Nat) (fun k => r.ps.length - k) (fun k => [(0, pv), (1, gv), (17, .int .i64 j), (18, .int .i64 k)]) (fun k n2 H2 => k ≤ r.ps.length ∧ n ≤ n2 ∧ (∀ i, i < n → H2 i = H i) ∧ ∀ q : Nat, q < k → typeBad pts (at_ r.ps (q : Int)) = false) 0 ?_ ?_ ?_
    · simp (disch := omega) [-hset_if, -Bool.decide_and, hset_ne]
    · exact ⟨by omega, g2, g3, fun q hq => by omega⟩
    rintro k n2 H2 ⟨k1, k2, k3, k4⟩
    have hs2 := hs.frame (H' := H2) (fun i hi => k3 i (hE i hi))
    have hp2 := hp.frame (H' := H2) (fun i hi => k3 i (hD i hi))
    have hR := hs2.ps r (hr2 ▸ at_mem h)
    simp (disch := omega) [-hset_if, -Bool.decide_and, hset_ne, hs2.sl.ix elemS72, hs2.sl.load shp22, hr2, hR.lenK]
    refine cif_dec (fun h2 => ?_) (fun h2 => ?_)
    · simp (disch := omega) [-hset_if, -Bool.decide_and, hset_ne, hs2.sl.ix elemS72, hs2.sl.load shp22, hr2, hR.ix elemS22, hR.load0 shp9]
      refine point_ok hp2 ?_
      have h0 := hkj k h2
      obtain ⟨q, hq⟩ : ∃ q : Nat, findPt pts (at_ r.ps (k : Int)) = (q : Int) := ⟨(findPt pts (at_ r.ps (k : Int))).toNat, by omega⟩
      obtain ⟨q1, _, _⟩ := fidx_spec (p := fun p : Pt => decide (p.nm = at_ r.ps (k : Int))) (xs := pts) (by rw [← fidx_eq]; exact hq)
      obtain ⟨t, ht⟩ : ∃ t, at_ pts (q : Int) = t := ⟨_, rfl⟩
      have ho := hp.st t (ht ▸ at_mem q1)
      have htb : typeBad pts (at_ r.ps (k : Int)) = (!(decide (t.role = 2)) || !(decide (t.kind = 2))) := by unfold typeBad; rw [hq, ht]
      rw [hq]
      simp (disch := omega) [-hset_if, -Bool.decide_and, hset_ne, hp2.sl.ix elemS71, hp2.sl.load0 shp100, ht, ho]
      have hfr : ∀ x, ∀ i, i < n → hset n2 x H2 i = H i := fun x i hi => by rw [hset_ne (by omega)]; exact k3 i hi
      cases c1 : decide (t.role = 2) with
      | false =>
        have c2 : (t.role != 2) = true := by simpa using c1
        have c3 : ¬ t.role = 2 := by simpa using c1
        rw [c1] at htb
        simp (disch := omega) [-hset_if, -Bool.decide_and, hset_ne, c2, c3]
        refine hr.fin ?_ (by omega) (hfr _)
        rw [ck11 f1 f2 f3 f4 f5 f6 (typ_hit h (k := k) (by rw [hr2]; exact h2) (by rw [hr2, htb]; rfl))]
      | true =>
        have c3 : t.role = 2 := by simpa using c1
        have c2 : (t.role != 2) = false := by simp [c3]
        rw [c1] at htb
        cases c4 : decide (t.kind = 2) with
        | false =>
          have c5 : (t.kind != 2) = true := by simpa using c4
          have c6 : ¬ t.kind = 2 := by simpa using c4
          rw [c4] at htb
          simp (disch := omega) [-hset_if, -Bool.decide_and, hset_ne, c2, c3, c5, c6]
          refine hr.fin ?_ (by omega) (hfr _)
          rw [ck11 f1 f2 f3 f4 f5 f6 (typ_hit h (k := k) (by rw [hr2]; exact h2) (by rw [hr2, htb]; rfl))]
        | true =>
          have c6 : t.kind = 2 := by simpa using c4
          have c5 : (t.kind != 2) = false := by simp [c6]
          rw [c4] at htb
          simp (disch := omega) [-hset_if, -Bool.decide_and, hset_ne, c2, c3, c5, c6]
          refine Next.mk (k + 1) (by first | omega | (dsimp only; omega)) (by simp (disch := omega) [-hset_if, -Bool.decide_and, hset_ne]) ⟨by omega, by omega, hfr _, ?_⟩
          intro q hq
          by_cases e : q < k
          · exact k4 q e
          · obtain rfl : q = k := by omega
            rw [htb]; rfl
    · simp (disch := omega) [-hset_if, -Bool.decide_and, hset_ne]
      refine Next.mk (j + 1) (by first | omega | (dsimp only; omega)) (by simp (disch := omega) [-hset_if, -Bool.decide_and, hset_ne]) ⟨by omega, k2, k3, ?_⟩
      intro q hq
      by_cases e : q < j
      · exact g4 q e
      · obtain rfl : q = j := by omega
        rw [hr2]; exact fun q hq => k4 q (by omega)
  have f7 : typB pts gs = false := typ_no (fun q hq => g4 q (by omega))
  simp (disch := omega) [-hset_if, -Bool.decide_and, hset_ne]
  refine hr.fin ?_ g2 g3
  rw [ck0 f1 f2 f3 f4 f5 f6 f7]
end Go.Aw.S15
