/-
  Chapter 15: points; the tests of their names.
-/
import Derived.Test.YtmgadjflgiokeaaS15cb
namespace Go.Aw.S15
open Go.RowKit Go.Proofs Go.Aw.Tab
set_option linter.unusedSimpArgs false
set_option linter.unusedVariables false
set_option maxRecDepth 10000
set_option maxHeartbeats 1000000
set_option pp.deepTerms false
set_option pp.deepTerms.threshold 4
set_option pp.maxSteps 1500
attribute [local simp] Gr.cells Pt.cells strC
variable {w0 : World} {n : Nat} {H : Heap} {K : Value → Nat → Heap → Prop} {D E : Nat → Prop} {gs : List Gr} {pts : List Pt}
/-- slices.IndexFunc and ContainsFunc over Pt. -/
theorem indexPt_ok {v : Value} {D : Nat → Prop} {xs : List Pt} {g : FuncId} {caps : Array Value} {p : Pt → Bool} (hs : SlR ⟨Try.prog, w0⟩ H D 12 Pt.cells v xs) (hD : ∀ i, D i → i < n)
    (hg : ∀ r ∈ xs, ∀ n' H' (K' : Value → Nat → Heap → Prop), n ≤ n' → (∀ i, i < n → H' i = H i) → (∀ n'' H'', n' ≤ n'' → (∀ i, i < n' → H'' i = H' i) → K' (.bool (p r)) n'' H'') → ACall ⟨Try.prog, w0⟩ g (.agg #[.string r.nm, .int .i64 r.kind, .int .i64 r.role, .string r.unit, .int .i64 r.low, .int .i64 r.high, .int .i64 r.step, r.sv, .int .i64 r.dk, .int .i64 r.dn, .int .i64 r.mon, .int .i64 r.moff] :: caps.toList) K' n' H')
    (hb : xs.length < 9223372036854775807) (hent : entB Try.prog g = true) (hk : ∀ n' H', n ≤ n' → (∀ i, i < n → H' i = H i) → K (.int .i64 (fidx p xs)) n' H') : ACall ⟨Try.prog, w0⟩ 53 [v, .func (.func g) #[] caps] K n H := by
  refine ACall.run Try.func53 rfl Try.ntmps53 Try.results53 (by simp) fun J0 => ?_
  simp (disch := omega) [-hset_if, -Bool.decide_and, hset_ne, hs.lenK]
  refine AW.while (σ := Nat) (fun j => xs.length - j) (fun j => [(0, v), (1, .func (.func g) #[] caps), (7, .int .i64 xs.length), (8, .int .i64 j)]) (fun j n1 H1 => j ≤ xs.length ∧ n ≤ n1 ∧ (∀ i, i < n → H1 i = H i) ∧ ∀ q, q < j → p (at_ xs (q : Int)) = false) 0 ?_ ?_ ?_
  · simp (disch := omega) [-hset_if, -Bool.decide_and, hset_ne]
  · exact ⟨by omega, Nat.le_refl _, fun _ _ => rfl, fun q hq => by omega⟩
  rintro j n1 H1 ⟨g1, g2, g3, g4⟩
  have hs1 : SlR ⟨Try.prog, w0⟩ H1 D 12 Pt.cells v xs := hs.frame (fun i hi => g3 i (hD i hi))
  simp (disch := omega) [-hset_if, -Bool.decide_and, hset_ne]
  refine cif_dec (fun h => ?_) (fun h => ?_)
  · have hx : at_ xs (j : Int) ∈ xs := by rw [at_nat h]; exact List.getElem_mem _
    simp (disch := omega) [-hset_if, -Bool.decide_and, hset_ne, hs1.ix elemS71, hs1.load0 shp100, hent]
    have hc := hg _ hx n1 H1
    refine hc _ g2 g3 ?_
    intro n2 H2 e1 e2
    simp (disch := omega) [-hset_if, -Bool.decide_and, hset_ne]
    refine cif_var (fun hp => ?_) (fun hp => ?_)
    · simp (disch := omega) [-hset_if, -Bool.decide_and, hset_ne]
      refine Fin_id ?_
      rw [fidx_found h hp g4] at hk
      exact hk _ _ (by omega) (fun i hi => by rw [e2 i (by omega), g3 i hi])
    · simp (disch := omega) [-hset_if, -Bool.decide_and, hset_ne]
      refine Next.mk (j + 1) (by first | omega | (simp only; omega)) (by simp (disch := omega) [-hset_if, -Bool.decide_and, hset_ne]) ⟨by omega, by omega, fun i hi => by rw [e2 i (by omega), g3 i hi], fun q hq => ?_⟩
      by_cases e : q < j
      · exact g4 q e
      · obtain rfl : q = j := by omega
        exact hp
  · simp (disch := omega) [-hset_if, -Bool.decide_and, hset_ne]
    refine Fin_id ?_
    rw [fidx_none (fun q hq => g4 q (by omega))] at hk
    exact hk _ _ g2 g3
theorem fidx_eq {α : Type} (p : α → Bool) : ∀ l : List α, fidx p l = Aw.fidx p l
  | [] => rfl
  | x :: r => by unfold fidx Aw.fidx; rw [fidx_eq p r]
/-- The index of a point. -/
def findPt (l : List Pt) (s : ByteArray) : Int := fidx (fun p => decide (p.nm = s)) l
theorem c54_ok {r : Pt} {V : Nat} {s : ByteArray} (hV : H V = .cells [.string s] 9 1) (hVn : V < n) (ho : r.sv.oneCell' = true) (hk : ∀ n' H', n ≤ n' → (∀ i, i < n → H' i = H i) → K (.bool (decide (r.nm = s))) n' H') :
    ACall ⟨Try.prog, w0⟩ 54 [.agg #[.string r.nm, .int .i64 r.kind, .int .i64 r.role, .string r.unit, .int .i64 r.low, .int .i64 r.high, .int .i64 r.step, r.sv, .int .i64 r.dk, .int .i64 r.dn, .int .i64 r.mon, .int .i64 r.moff], .pointer (some ⟨new V, 0, none⟩)] K n H := by
  refine ACall.run Try.func54 rfl Try.ntmps54 Try.results54 (by simp) fun J0 => ?_
  simp (disch := omega) [-hset_if, -Bool.decide_and, hset_ne, ho]
  try rw [show (Value.agg #[.string r.nm, .int .i64 r.kind, .int .i64 r.role, .string r.unit, .int .i64 r.low, .int .i64 r.high, .int .i64 r.step, r.sv, .int .i64 r.dk, .int .i64 r.dn, .int .i64 r.mon, .int .i64 r.moff]).cells.toList = [.string r.nm, .int .i64 r.kind, .int .i64 r.role, .string r.unit, .int .i64 r.low, .int .i64 r.high, .int .i64 r.step, r.sv, .int .i64 r.dk, .int .i64 r.dn, .int .i64 r.mon, .int .i64 r.moff] from rfl]
  have hbx : ∀ o : Unit, hset n (.cells [.string r.nm, .int .i64 r.kind, .int .i64 r.role, .string r.unit, .int .i64 r.low, .int .i64 r.high, .int .i64 r.step, r.sv, .int .i64 r.dk, .int .i64 r.dn, .int .i64 r.mon, .int .i64 r.moff] 100 1) H n = .cells [.string r.nm, .int .i64 r.kind, .int .i64 r.role, .string r.unit, .int .i64 r.low, .int .i64 r.high, .int .i64 r.step, r.sv, .int .i64 r.dk, .int .i64 r.dn, .int .i64 r.mon, .int .i64 r.moff] 100 1 := fun _ => hset_same _ _ _
  have hfr : ∀ i, i < n → hset n (.cells [.string r.nm, .int .i64 r.kind, .int .i64 r.role, .string r.unit, .int .i64 r.low, .int .i64 r.high, .int .i64 r.step, r.sv, .int .i64 r.dk, .int .i64 r.dn, .int .i64 r.mon, .int .i64 r.moff] 100 1) H i = H i := fun i hi => hset_ne (by omega) _ _
  generalize hset n (.cells [.string r.nm, .int .i64 r.kind, .int .i64 r.role, .string r.unit, .int .i64 r.low, .int .i64 r.high, .int .i64 r.step, r.sv, .int .i64 r.dk, .int .i64 r.dn, .int .i64 r.mon, .int .i64 r.moff] 100 1) H = H1 at *
  replace hbx := hbx ()
  have hV1 : H1 V = .cells [.string s] 9 1 := by rw [hfr V hVn]; exact hV
  simp (disch := omega) [-hset_if, -Bool.decide_and, hset_ne, hbx, hV, hV1]
  refine Fin_id ?_
  have h := hk (n + 1) H1 (by omega) hfr
  simpa using h
theorem c52_ok {V : Nat} {pv : Value} {s : ByteArray} (hV : H V = .cells [pv] 71 1) (hVn : V < n) (hp : PtsR H w0 D pv pts) (hD : ∀ i, D i → i < n) (hk : ∀ n' H', n ≤ n' → (∀ i, i < n → H' i = H i) → K (.int .i64 (findPt pts s)) n' H') :
    ACall ⟨Try.prog, w0⟩ 52 [.string s, .pointer (some ⟨new V, 0, none⟩)] K n H := by
  have hent : entB Try.prog 54 = true := by kernel_rfl
  have hlb := hp.lb
  refine ACall.run Try.func52 rfl Try.ntmps52 Try.results52 (by simp) fun J0 => ?_
  simp (disch := omega) [-hset_if, -Bool.decide_and, hset_ne]
  try rw [show (Value.string s).cells.toList = [.string s] from rfl]
  have hb0 : hset n (.cells [.string s] 9 1) H n = .cells [.string s] 9 1 := hset_same _ _ _
  have hfr : ∀ i, i < n → hset n (.cells [.string s] 9 1) H i = H i := fun i hi => hset_ne (by omega) _ _
  generalize hset n (.cells [.string s] 9 1) H = H1 at *
  have hp1 := hp.frame (fun i hi => hfr i (hD i hi))
  have hV1 : H1 V = .cells [pv] 71 1 := by rw [hfr V hVn]; exact hV
  simp (disch := omega) [-hset_if, -Bool.decide_and, hset_ne, hV, hV1]
  refine indexPt_ok (p := fun p => decide (p.nm = s)) hp1.sl (fun i hi => by have := hD i hi; omega) (fun r hr n' H' K' a1 a2 a3 => c54_ok (by rw [a2 n (by omega)]; exact hb0) (by omega) (hp.st r hr) a3) (by omega) hent ?_
  intro n1 H2 e1 e2
  simp (disch := omega) [-hset_if, -Bool.decide_and, hset_ne]
  refine Fin_id ?_
  exact hk _ _ (by omega) (fun i hi => by rw [e2 i (by omega), hfr i hi])
theorem c65_ok {V P : Nat} {pv : Value} {s : ByteArray} (hV : H V = .cells [pv] 71 1) (hVn : V < n) (hP : H P = .cells [.func (.func 52) #[] #[.pointer (some ⟨new V, 0, none⟩)]] 102 1) (hPn : P < n) (hp : PtsR H w0 D pv pts) (hD : ∀ i, D i → i < n)
    (hk : ∀ n' H', n ≤ n' → (∀ i, i < n → H' i = H i) → K (.bool (decide (findPt pts s < 0))) n' H') : ACall ⟨Try.prog, w0⟩ 65 [.string s, .pointer (some ⟨new P, 0, none⟩)] K n H := by
  have hent : entB Try.prog 52 = true := by kernel_rfl
  refine ACall.run Try.func65 rfl Try.ntmps65 Try.results65 (by simp) fun J0 => ?_
  simp (disch := omega) [-hset_if, -Bool.decide_and, hset_ne, hP, hent]
  refine c52_ok hV hVn hp hD ?_
  intro n1 H1 e1 e2
  simp (disch := omega) [-hset_if, -Bool.decide_and, hset_ne]
  refine Fin_id ?_
  exact hk _ _ e1 e2
def typeBad (pts : List Pt) (s : ByteArray) : Bool := !(decide ((at_ pts (findPt pts s)).role = 2)) || !(decide ((at_ pts (findPt pts s)).kind = 2))
theorem c66_ok {V P : Nat} {pv : Value} {s : ByteArray} (hV : H V = .cells [pv] 71 1) (hVn : V < n) (hP : H P = .cells [.func (.func 52) #[] #[.pointer (some ⟨new V, 0, none⟩)]] 102 1) (hPn : P < n) (hp : PtsR H w0 D pv pts) (hD : ∀ i, D i → i < n) (h0 : 0 ≤ findPt pts s)
    (hk : ∀ n' H', n ≤ n' → (∀ i, i < n → H' i = H i) → K (.bool (typeBad pts s)) n' H') : ACall ⟨Try.prog, w0⟩ 66 [.string s, .pointer (some ⟨new V, 0, none⟩), .pointer (some ⟨new P, 0, none⟩)] K n H := by
  have hent : entB Try.prog 52 = true := by kernel_rfl
  obtain ⟨q, hq⟩ : ∃ q : Nat, findPt pts s = (q : Int) := ⟨(findPt pts s).toNat, by omega⟩
  obtain ⟨g1, g2, g3⟩ := fidx_spec (p := fun p : Pt => decide (p.nm = s)) (xs := pts) (by rw [← fidx_eq]; exact hq)
  obtain ⟨r, hr⟩ : ∃ r, at_ pts (q : Int) = r := ⟨_, rfl⟩
  have hr1 : r ∈ pts := hr ▸ at_mem g1
  have ho := hp.st r hr1
  have htb : typeBad pts s = (!(decide (r.role = 2)) || !(decide (r.kind = 2))) := by unfold typeBad; rw [hq, hr]
  refine ACall.run Try.func66 rfl Try.ntmps66 Try.results66 (by simp) fun J0 => ?_
  simp (disch := omega) [-hset_if, -Bool.decide_and, hset_ne]
  refine AW.draw (X := ⟨_, 20, _, _⟩) (id := 1) mixed (.take 0 <| .take 1 <| .take 2 <| .each 3 [0] (.take 4 <| .take 5 <| .each 6 [0, 4, 5] (.each 7 [] (.done) <| .stop) <| .stop) <| .each 6 [0, 1, 2] (.each 3 [0] (.take 4 <| .take 5 <| .each 7 [] (.done) <| .stop) <| .stop) <| .stop) (by kernel_rfl) ?_
  simp (disch := omega) [-hset_if, -Bool.decide_and, hset_ne, hV, hP, hent]
  have hlb := hp.lb
  have hfin : ∀ n' H', n ≤ n' → (∀ i, i < n → H' i = H i) → K (.bool (!(decide (r.role = 2)) || !(decide (r.kind = 2)))) n' H' := by rw [← htb]; exact hk
  refine ⟨?_, ?_⟩
  · refine c52_ok hV hVn hp hD ?_
    intro n1 H1 e1 e2
    have hp1 := hp.frame (fun i hi => e2 i (hD i hi))
    have hV1 : H1 V = .cells [pv] 71 1 := by rw [e2 V hVn]; exact hV
    have hP1 : H1 P = .cells [.func (.func 52) #[] #[.pointer (some ⟨new V, 0, none⟩)]] 102 1 := by rw [e2 P hPn]; exact hP
    rw [hq]
    simp (disch := omega) [-hset_if, -Bool.decide_and, hset_ne, hV1, hP1, hp1.sl.ix elemS71, hp1.sl.load0 shp100, hr, ho]
    refine ⟨by simp (disch := omega) [-hset_if, -Bool.decide_and, hset_ne, hp1.sl.fresh0 (n := n1) (fun i hi => by have := hD i hi; omega), hp1.sl.load0 shp100, hr, ho], ?_⟩
    cases c1 : decide (r.role = 2) with
    | false =>
      have c2 : (r.role != 2) = true := by simpa using c1
      have c3 : ¬ r.role = 2 := by simpa using c1
      rw [c1] at hfin
      simp (disch := omega) [-hset_if, -Bool.decide_and, hset_ne, c2, c3]
      refine Fin_id ?_
      exact hfin _ _ (by omega) (fun i hi => by rw [hset_ne (by omega)]; exact e2 i hi)
    | true =>
      have c3 : r.role = 2 := by simpa using c1
      have c2 : (r.role != 2) = false := by simp [c3]
      rw [c1] at hfin
      simp (disch := omega) [-hset_if, -Bool.decide_and, hset_ne, c2, c3]
      refine Fin_id ?_
      have h := hfin (n1 + 1) (hset n1 (.cells [.string r.nm, .int .i64 r.kind, .int .i64 2, .string r.unit, .int .i64 r.low, .int .i64 r.high, .int .i64 r.step, r.sv, .int .i64 r.dk, .int .i64 r.dn, .int .i64 r.mon, .int .i64 r.moff] 100 1) H1) (by omega) (fun i hi => by rw [hset_ne (by omega)]; exact e2 i hi)
      cases c4 : decide (r.kind = 2) with
      | true =>
        have c5 : (r.kind != 2) = false := by simpa using c4
        rw [c4] at h; rw [c5]; exact h
      | false =>
        have c5 : (r.kind != 2) = true := by simpa using c4
        rw [c4] at h; rw [c5]; exact h
  · refine c52_ok (by rw [hset_ne (by omega)]; exact hV) (by omega) (hp.frame (fun i hi => hset_ne (by have := hD i hi; omega) _ _)) (fun i hi => by have := hD i hi; omega) ?_
    intro n1 H1 e1 e2
    have e3 : ∀ i, i < n → H1 i = H i := fun i hi => by rw [e2 i (by omega), hset_ne (by omega)]
    have hp1 := hp.frame (fun i hi => e3 i (hD i hi))
    have hV1 : H1 V = .cells [pv] 71 1 := by rw [e3 V hVn]; exact hV
    have hP1 : H1 P = .cells [.func (.func 52) #[] #[.pointer (some ⟨new V, 0, none⟩)]] 102 1 := by rw [e3 P hPn]; exact hP
    have hn1 := e2 n (by omega)
    rw [hset_same] at hn1
    rw [hq]
    simp (disch := omega) [-hset_if, -Bool.decide_and, hset_ne, hV1, hP1, hp1.sl.ix elemS71, hp1.sl.load0 shp100, hr, ho, hn1]
    cases c1 : decide (r.role = 2) with
    | false =>
      have c2 : (r.role != 2) = true := by simpa using c1
      have c3 : ¬ r.role = 2 := by simpa using c1
      rw [c1] at hfin
      simp (disch := omega) [-hset_if, -Bool.decide_and, hset_ne, c2, c3]
      refine Fin_id ?_
      exact hfin _ _ (by omega) (fun i hi => by rw [hset_ne (by omega)]; exact e3 i hi)
    | true =>
      have c3 : r.role = 2 := by simpa using c1
      have c2 : (r.role != 2) = false := by simp [c3]
      rw [c1] at hfin
      simp (disch := omega) [-hset_if, -Bool.decide_and, hset_ne, c2, c3]
      refine Fin_id ?_
      have h := hfin n1 (hset n (.cells [.string r.nm, .int .i64 r.kind, .int .i64 2, .string r.unit, .int .i64 r.low, .int .i64 r.high, .int .i64 r.step, r.sv, .int .i64 r.dk, .int .i64 r.dn, .int .i64 r.mon, .int .i64 r.moff] 100 1) H1) (by omega) (fun i hi => by rw [hset_ne (by omega)]; exact e3 i hi)
      cases c4 : decide (r.kind = 2) with
      | true =>
        have c5 : (r.kind != 2) = false := by simpa using c4
        rw [c4] at h; rw [c5]; exact h
      | false =>
        have c5 : (r.kind != 2) = true := by simpa using c4
        rw [c4] at h; rw [c5]; exact h
end Go.Aw.S15
