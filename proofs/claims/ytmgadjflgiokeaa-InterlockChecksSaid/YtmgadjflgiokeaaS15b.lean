/-
  Chapter 15: what is formed; the winner.
-/
import Derived.Test.YtmgadjflgiokeaaS15a
namespace Go.Aw.S15
open Go.RowKit Go.Proofs Go.Aw.Tab
set_option linter.unusedSimpArgs false
set_option linter.unusedVariables false
set_option maxRecDepth 10000
set_option maxHeartbeats 1000000
set_option pp.deepTerms false
set_option pp.deepTerms.threshold 4
set_option pp.maxSteps 1500
attribute [local simp] Req.cells
variable {w0 : World} {n : Nat} {H : Heap} {K : Value → Nat → Heap → Prop}
def strC (s : ByteArray) : List Value := [.string s]
theorem dead_ok (d : Int) (hk : K (.bool (decide (0 ≤ d) && decide (d ≤ 3600))) n H) : ACall ⟨Try.prog, w0⟩ 45 [.int .i64 d] K n H := by
  refine ACall.run Try.func45 rfl Try.ntmps45 Try.results45 (by simp) fun J0 => ?_
  simp (disch := omega) [-hset_if, -Bool.decide_and, hset_ne]
  refine gif_dec (fun h => ?_) (fun h => ?_)
  · simp (disch := omega) [-hset_if, -Bool.decide_and, hset_ne]
    refine Fin_id ?_
    simpa [h] using hk
  · simp (disch := omega) [-hset_if, -Bool.decide_and, hset_ne]
    refine Fin_id ?_
    simpa [h] using hk
def okLvl (r : Req) : Bool := decide (1 ≤ r.lvl) && decide (r.lvl ≤ 18)
theorem formed1_ok (r : Req) (hk : ∀ n' H', n ≤ n' → (∀ i, i < n → H' i = H i) → K (.bool (!okLvl r)) n' H') : ACall ⟨Try.prog, w0⟩ 69 [.agg r.cells.toArray] K n H := by
  refine ACall.run Try.func69 rfl Try.ntmps69 Try.results69 (by simp) fun J0 => ?_
  simp (disch := omega) [-hset_if, -Bool.decide_and, hset_ne]
  refine gif_dec (fun h => ?_) (fun h => ?_)
  · simp (disch := omega) [-hset_if, -Bool.decide_and, hset_ne]
    refine Fin_id ?_
    simpa [okLvl, show ¬ 1 ≤ r.lvl by omega] using hk _ _ (by omega) (fun i hi => by simp (disch := omega) only [hset_ne])
  · simp (disch := omega) [-hset_if, -Bool.decide_and, hset_ne]
    refine Fin_id ?_
    have : (decide (18 < r.lvl)) = !decide (r.lvl ≤ 18) := by rw [Bool.eq_iff_iff]; simp
    simpa [okLvl, show 1 ≤ r.lvl by omega, this] using hk _ _ (by omega) (fun i hi => by simp (disch := omega) only [hset_ne])
def formedB (np : Nat) (dead on left : Int) (rs : List Req) : Bool := decide ((rs.length : Int) = np ∧ -1 ≤ on ∧ on < np ∧ 0 ≤ left ∧ 0 ≤ dead ∧ dead ≤ 3600 ∧ rs.any (fun r => !okLvl r) = false)
theorem formed_ok {pv av : Value} {D E : Nat → Prop} {nm : ByteArray} {ps : List ByteArray} {rs : List Req} {dead on left : Int} (hp : SlR ⟨Try.prog, w0⟩ H E 1 strC pv ps) (hs : SlR ⟨Try.prog, w0⟩ H D 3 Req.cells av rs) (hD : ∀ i, D i → i < n) (hb : rs.length < 9223372036854775807)
    (hk : ∀ n' H', n ≤ n' → (∀ i, i < n → H' i = H i) → K (.bool (formedB ps.length dead on left rs)) n' H') :
    ACall ⟨Try.prog, w0⟩ 35 [.agg #[.string nm, pv, .int .i64 dead], .agg #[.int .i64 on, .int .i64 left], av] K n H := by
  have no : ∀ n' H', n ≤ n' → (∀ i, i < n → H' i = H i) → formedB ps.length dead on left rs = false → K (.bool false) n' H' := fun n' H' h1 h2 h3 => by rw [← h3]; exact hk n' H' h1 h2
  refine ACall.run Try.func35 rfl Try.ntmps35 Try.results35 (by simp) fun J0 => ?_
  simp (disch := omega) [-hset_if, -Bool.decide_and, hset_ne, hs.lenK, hp.lenK]
  refine gif_bne (fun h => ?_) (fun h => ?_)
  · simp (disch := omega) [-hset_if, -Bool.decide_and, hset_ne]
    refine gif_dec (fun h1 => ?_) (fun h1 => ?_)
    · simp (disch := omega) [-hset_if, -Bool.decide_and, hset_ne]
      refine Fin_id (no _ _ (by omega) (fun i hi => by simp (disch := omega) only [hset_ne]) (decide_eq_false (by omega)))
    simp (disch := omega) [-hset_if, -Bool.decide_and, hset_ne, hp.lenK]
    refine gif_dec (fun h2 => ?_) (fun h2 => ?_)
    · simp (disch := omega) [-hset_if, -Bool.decide_and, hset_ne]
      refine Fin_id (no _ _ (by omega) (fun i hi => by simp (disch := omega) only [hset_ne]) (decide_eq_false (by omega)))
    simp (disch := omega) [-hset_if, -Bool.decide_and, hset_ne]
    refine gif_dec (fun h3 => ?_) (fun h3 => ?_)
    · simp (disch := omega) [-hset_if, -Bool.decide_and, hset_ne]
      refine Fin_id (no _ _ (by omega) (fun i hi => by simp (disch := omega) only [hset_ne]) (decide_eq_false (by omega)))
    simp (disch := omega) [-hset_if, -Bool.decide_and, hset_ne]
    refine dead_ok dead ?_
    simp (disch := omega) [-hset_if, -Bool.decide_and, hset_ne]
    refine cif_var (fun h4 => ?_) (fun h4 => ?_)
    · simp at h4
      simp (disch := omega) [-hset_if, -Bool.decide_and, hset_ne]
      refine Fin_id (no _ _ (by omega) (fun i hi => by simp (disch := omega) only [hset_ne]) (decide_eq_false (by omega)))
    simp at h4
    simp (disch := omega) [-hset_if, -Bool.decide_and, hset_ne]
    refine containsReq_ok (g := 69) (caps := #[]) (p := fun r => !okLvl r) (hs.frame (fun i hi => by have := hD i hi; simp (disch := omega) [-hset_if, -Bool.decide_and, hset_ne])) (fun i hi => by have := hD i hi; omega) (fun r _ n' H' K' h1 h2 hk' => formed1_ok r hk') hb (by simp) ?_
    intro n1 H1 e1 e2
    simp (disch := omega) [-hset_if, -Bool.decide_and, hset_ne]
    refine Fin_id ?_
    have : formedB ps.length dead on left rs = !rs.any (fun r => !okLvl r) := by
      unfold formedB
      cases hx : rs.any (fun r => !okLvl r)
      · simp; omega
      · simp
    rw [← this]
    exact hk _ _ (by omega) (fun i hi => by rw [e2 i (by omega)]; simp (disch := omega) [-hset_if, -Bool.decide_and, hset_ne])
  · simp (disch := omega) [-hset_if, -Bool.decide_and, hset_ne]
    refine Fin_id (no _ _ (by omega) (fun i hi => by simp (disch := omega) only [hset_ne]) (decide_eq_false (by omega)))
/-! ### The winner -/
def asksB (r : Req) : Bool := decide (r.kind = 2 ∧ r.num = 1)
theorem asking_ok {av : Value} {D : Nat → Prop} {rs : List Req} {i : Int} {b : Nat} (hs : SlR ⟨Try.prog, w0⟩ H D 3 Req.cells av rs) (hb : H b = .cells [av] 25 1) (h0 : 0 ≤ i) (h1 : i < rs.length) (hk : K (.bool (asksB (at_ rs i))) n H) :
    ACall ⟨Try.prog, w0⟩ 70 [.int .i64 i, .pointer (some ⟨new b, 0, none⟩)] K n H := by
  refine ACall.run Try.func70 rfl Try.ntmps70 Try.results70 (by simp) fun J0 => ?_
  simp (disch := omega) [-hset_if, -Bool.decide_and, hset_ne, hb, hs.ix elemS25, hs.load shp94, hs.load0 shp94]
  refine Fin_id hk
def inB (a b : Int) (r : Req) : Bool := asksB r && decide (a ≤ r.lvl) && decide (r.lvl ≤ b)
theorem within_ok {av : Value} {D : Nat → Prop} {rs : List Req} {i a b : Int} {bf ba bl bm : Nat} (hs : SlR ⟨Try.prog, w0⟩ H D 3 Req.cells av rs) (hf : H bf = .cells [.func (.func 70) #[] #[.pointer (some ⟨new ba, 0, none⟩)]] 89 1) (ha : H ba = .cells [av] 25 1)
    (hl : H bl = .cells [.int .i64 a] 3 1) (hm : H bm = .cells [.int .i64 b] 3 1) (h0 : 0 ≤ i) (h1 : i < rs.length) (hk : K (.bool (inB a b (at_ rs i))) n H) :
    ACall ⟨Try.prog, w0⟩ 72 [.int .i64 i, .pointer (some ⟨new bf, 0, none⟩), .pointer (some ⟨new ba, 0, none⟩), .pointer (some ⟨new bl, 0, none⟩), .pointer (some ⟨new bm, 0, none⟩)] K n H := by
  refine ACall.run Try.func72 rfl Try.ntmps72 Try.results72 (by simp) fun J0 => ?_
  simp (disch := omega) [-hset_if, -Bool.decide_and, hset_ne]
  refine AW.draw (X := ⟨_, 28, _, _⟩) (id := 1) mixed (.take 0 <| .take 1 <| .each 2 [] (.take 3 <| .take 4 <| .take 5 <| .take 6 <| .take 7 <| .take 8 <| .take 9 <| .take 10 <| .take 11 <| .take 12 <| .take 13 <| .take 14 <| .take 15 <| .take 16 <| .take 17 <| .take 18 <| .take 19 <| .take 20 <| .take 21 <| .done) <| .stop) (by kernel_rfl) ?_
  simp (disch := omega) [-hset_if, -Bool.decide_and, hset_ne, hf]
  refine asking_ok hs ha h0 h1 ?_
  simp (disch := omega) [-hset_if, -Bool.decide_and, hset_ne]
  refine gif_var (fun h => ?_) (fun h => ?_)
  · simp (disch := omega) [-hset_if, -Bool.decide_and, hset_ne, ha, hl, hm, hs.ix elemS25, hs.load shp3, hs.load0 shp3]
    refine gif_dec (fun h2 => ?_) (fun h2 => ?_)
    · simp (disch := omega) [-hset_if, -Bool.decide_and, hset_ne, ha, hl, hm, hs.ix elemS25, hs.load shp3, hs.load0 shp3]
      refine Fin_id ?_
      simpa [inB, h, h2] using hk
    · simp (disch := omega) [-hset_if, -Bool.decide_and, hset_ne]
      refine Fin_id ?_
      simpa [inB, h, h2] using hk
  · simp (disch := omega) [-hset_if, -Bool.decide_and, hset_ne]
    refine Fin_id ?_
    simpa [inB, h] using hk
/-- The first one in a span of levels, the one that is on ahead of the others. -/
def first (on : Int) (rs : List Req) (a b : Int) : Int := if 0 ≤ on ∧ inB a b (at_ rs on) = true then on else fidx (inB a b) rs
theorem first_ok {av : Value} {D : Nat → Prop} {rs : List Req} {on a b : Int} {bf ba bo : Nat} (hs : SlR ⟨Try.prog, w0⟩ H D 3 Req.cells av rs) (hD : ∀ i, D i → i < n) (hf : H bf = .cells [.func (.func 70) #[] #[.pointer (some ⟨new ba, 0, none⟩)]] 89 1) (ha : H ba = .cells [av] 25 1)
    (ho : H bo = .cells [.int .i64 on] 3 1) (hbf : bf < n) (hba : ba < n) (hbo : bo < n) (h1 : on < rs.length) (hb : rs.length < 9223372036854775807) (hk : ∀ n' H', n ≤ n' → (∀ i, i < n → H' i = H i) → K (.int .i64 (first on rs a b)) n' H') :
    ACall ⟨Try.prog, w0⟩ 71 [.int .i64 a, .int .i64 b, .pointer (some ⟨new bf, 0, none⟩), .pointer (some ⟨new ba, 0, none⟩), .pointer (some ⟨new bo, 0, none⟩)] K n H := by
  refine ACall.run Try.func71 rfl Try.ntmps71 Try.results71 (by simp) fun J0 => ?_
  simp (disch := omega) [-hset_if, -Bool.decide_and, hset_ne, ho]
  have hs0 : SlR ⟨Try.prog, w0⟩ (hset (n + 1) (.cells [.int .i64 b] 3 1) (hset n (.cells [.int .i64 a] 3 1) H)) D 3 Req.cells av rs := hs.frame (fun i hi => by have := hD i hi; simp (disch := omega) [-hset_if, -Bool.decide_and, hset_ne])
  refine gif_dec (fun h => ?_) (fun h => ?_)
  · simp (disch := omega) [-hset_if, -Bool.decide_and, hset_ne, ho]
    refine within_ok (a := a) (b := b) (rs := rs) hs0 (by simp (disch := omega) [-hset_if, -Bool.decide_and, hset_ne, hf]) (by simp (disch := omega) [-hset_if, -Bool.decide_and, hset_ne, ha]) (by simp (disch := omega) [-hset_if, -Bool.decide_and, hset_ne]) (by simp (disch := omega) [-hset_if, -Bool.decide_and, hset_ne]) h h1 ?_
    simp (disch := omega) [-hset_if, -Bool.decide_and, hset_ne]
    refine cif_var (fun hin => ?_) (fun hin => ?_)
    · simp (disch := omega) [-hset_if, -Bool.decide_and, hset_ne, ho]
      refine Fin_id ?_
      rw [show first on rs a b = on from by rw [first, if_pos ⟨h, hin⟩]] at hk
      exact hk _ _ (by omega) (fun i hi => by simp (disch := omega) only [hset_ne])
    · have hno : ¬ (0 ≤ on ∧ inB a b (at_ rs on) = true) := fun hc => by rw [hc.2] at hin; cases hin
      simp (disch := omega) [-hset_if, -Bool.decide_and, hset_ne, ha, hs0.lenK]
      refine AW.while (σ := Nat) (fun j => rs.length - j) (fun j => [(8, .func (.func 72) #[] #[.pointer (some ⟨new bf, 0, none⟩), .pointer (some ⟨new ba, 0, none⟩), .pointer (some ⟨new n, 0, none⟩), .pointer (some ⟨new (n + 1), 0, none⟩)]), (20, .int .i64 rs.length), (21, .int .i64 j)])
        (fun j n1 H1 => j ≤ rs.length ∧ n + 2 ≤ n1 ∧ (∀ i, i < n + 2 → H1 i = hset (n + 1) (.cells [.int .i64 b] 3 1) (hset n (.cells [.int .i64 a] 3 1) H) i) ∧ ∀ q, q < j → inB a b (at_ rs (q : Int)) = false) 0 ?_ ?_ ?_
      · simp (disch := omega) [-hset_if, -Bool.decide_and, hset_ne]
      · exact ⟨by omega, by omega, fun _ _ => rfl, fun q hq => by omega⟩
      rintro j n1 H1 ⟨g1, g2, g3, g4⟩
      have hs1 : SlR ⟨Try.prog, w0⟩ H1 D 3 Req.cells av rs := hs0.frame (fun i hi => g3 i (by have := hD i hi; omega))
      simp (disch := omega) [-hset_if, -Bool.decide_and, hset_ne]
      refine cif_dec (fun hj => ?_) (fun hj => ?_)
      · simp (disch := omega) [-hset_if, -Bool.decide_and, hset_ne]
        refine within_ok (a := a) (b := b) (rs := rs) hs1 (by simp (disch := omega) [-hset_if, -Bool.decide_and, hset_ne, g3, hf]) (by simp (disch := omega) [-hset_if, -Bool.decide_and, hset_ne, g3, ha]) (by simp (disch := omega) [-hset_if, -Bool.decide_and, hset_ne, g3]) (by simp (disch := omega) [-hset_if, -Bool.decide_and, hset_ne, g3]) (by omega) (by omega) ?_
        simp (disch := omega) [-hset_if, -Bool.decide_and, hset_ne]
        refine cif_var (fun hp => ?_) (fun hp => ?_)
        · simp (disch := omega) [-hset_if, -Bool.decide_and, hset_ne]
          refine Fin_id ?_
          rw [show first on rs a b = j from by rw [first, if_neg hno]; exact fidx_found hj hp g4] at hk
          exact hk _ _ (by omega) (fun i hi => by simp (disch := omega) [-hset_if, -Bool.decide_and, hset_ne, g3])
        · simp (disch := omega) [-hset_if, -Bool.decide_and, hset_ne]
          refine Next.mk (j + 1) (by first | omega | (simp only; omega)) (by simp (disch := omega) [-hset_if, -Bool.decide_and, hset_ne]) ⟨by omega, by omega, g3, fun q hq => ?_⟩
          by_cases e : q < j
          · exact g4 q e
          · obtain rfl : q = j := by omega
            exact hp
      · simp (disch := omega) [-hset_if, -Bool.decide_and, hset_ne]
        refine Fin_id ?_
        rw [show first on rs a b = -1 from by rw [first, if_neg hno]; exact fidx_none (fun q hq => g4 q (by omega))] at hk
        exact hk _ _ (by omega) (fun i hi => by simp (disch := omega) [-hset_if, -Bool.decide_and, hset_ne, g3])
  · have hno : ¬ (0 ≤ on ∧ inB a b (at_ rs on) = true) := fun hc => h hc.1
    simp (disch := omega) [-hset_if, -Bool.decide_and, hset_ne, ha, hs0.lenK]
    refine AW.while (σ := Nat) (fun j => rs.length - j) (fun j => [(8, .func (.func 72) #[] #[.pointer (some ⟨new bf, 0, none⟩), .pointer (some ⟨new ba, 0, none⟩), .pointer (some ⟨new n, 0, none⟩), .pointer (some ⟨new (n + 1), 0, none⟩)]), (20, .int .i64 rs.length), (21, .int .i64 j)])
      (fun j n1 H1 => j ≤ rs.length ∧ n + 2 ≤ n1 ∧ (∀ i, i < n + 2 → H1 i = hset (n + 1) (.cells [.int .i64 b] 3 1) (hset n (.cells [.int .i64 a] 3 1) H) i) ∧ ∀ q, q < j → inB a b (at_ rs (q : Int)) = false) 0 ?_ ?_ ?_
    · simp (disch := omega) [-hset_if, -Bool.decide_and, hset_ne]
    · exact ⟨by omega, by omega, fun _ _ => rfl, fun q hq => by omega⟩
    rintro j n1 H1 ⟨g1, g2, g3, g4⟩
    have hs1 : SlR ⟨Try.prog, w0⟩ H1 D 3 Req.cells av rs := hs0.frame (fun i hi => g3 i (by have := hD i hi; omega))
    simp (disch := omega) [-hset_if, -Bool.decide_and, hset_ne]
    refine cif_dec (fun hj => ?_) (fun hj => ?_)
    · simp (disch := omega) [-hset_if, -Bool.decide_and, hset_ne]
      refine within_ok (a := a) (b := b) (rs := rs) hs1 (by simp (disch := omega) [-hset_if, -Bool.decide_and, hset_ne, g3, hf]) (by simp (disch := omega) [-hset_if, -Bool.decide_and, hset_ne, g3, ha]) (by simp (disch := omega) [-hset_if, -Bool.decide_and, hset_ne, g3]) (by simp (disch := omega) [-hset_if, -Bool.decide_and, hset_ne, g3]) (by omega) (by omega) ?_
      simp (disch := omega) [-hset_if, -Bool.decide_and, hset_ne]
      refine cif_var (fun hp => ?_) (fun hp => ?_)
      · simp (disch := omega) [-hset_if, -Bool.decide_and, hset_ne]
        refine Fin_id ?_
        rw [show first on rs a b = j from by rw [first, if_neg hno]; exact fidx_found hj hp g4] at hk
        exact hk _ _ (by omega) (fun i hi => by simp (disch := omega) [-hset_if, -Bool.decide_and, hset_ne, g3])
      · simp (disch := omega) [-hset_if, -Bool.decide_and, hset_ne]
        refine Next.mk (j + 1) (by first | omega | (simp only; omega)) (by simp (disch := omega) [-hset_if, -Bool.decide_and, hset_ne]) ⟨by omega, by omega, g3, fun q hq => ?_⟩
        by_cases e : q < j
        · exact g4 q e
        · obtain rfl : q = j := by omega
          exact hp
    · simp (disch := omega) [-hset_if, -Bool.decide_and, hset_ne]
      refine Fin_id ?_
      rw [show first on rs a b = -1 from by rw [first, if_neg hno]; exact fidx_none (fun q hq => g4 q (by omega))] at hk
      exact hk _ _ (by omega) (fun i hi => by simp (disch := omega) [-hset_if, -Bool.decide_and, hset_ne, g3])
end Go.Aw.S15
