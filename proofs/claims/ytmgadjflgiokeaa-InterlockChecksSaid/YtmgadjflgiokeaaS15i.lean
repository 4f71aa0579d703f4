/-
  Chapter 15: names.
-/
import Derived.Test.YtmgadjflgiokeaaS15g
namespace Go.Aw.S15
open Go.RowKit Go.Proofs Go.Aw.Tab
set_option linter.unusedSimpArgs false
set_option linter.unusedVariables false
set_option maxRecDepth 10000
set_option maxHeartbeats 1000000
set_option pp.deepTerms false
set_option pp.deepTerms.threshold 4
set_option pp.maxSteps 1500
variable {w0 : World} {n : Nat} {H : Heap} {K : Value → Nat → Heap → Prop} {s : ByteArray}
def lowB (c : Int) : Bool := decide (97 ≤ c) && decide (c ≤ 122)
def digB (c : Int) : Bool := decide (48 ≤ c) && decide (c ≤ 57)
def okc (c : Int) : Bool := lowB c || digB c || decide (c = 95)
def nameB (s : ByteArray) : Bool := decide (1 ≤ s.size ∧ s.size ≤ 24 ∧ lowB (bt s 0) = true ∧ ∀ i : Nat, i < s.size → okc (bt s i) = true)
theorem digit_ok {c : Int} (hk : K (.bool (digB c)) n H) : ACall ⟨Try.prog, w0⟩ 76 [.int .u8 c] K n H := by
  refine ACall.run Try.func76 rfl Try.ntmps76 Try.results76 (by simp) fun J0 => ?_
  simp (disch := omega) [-hset_if, -Bool.decide_and, hset_ne]
  refine gif_dec (fun h => ?_) (fun h => ?_)
  · simp (disch := omega) [-hset_if, -Bool.decide_and, hset_ne]
    refine Fin_id ?_
    simpa [digB, h] using hk
  · simp (disch := omega) [-hset_if, -Bool.decide_and, hset_ne]
    refine Fin_id ?_
    simpa [digB, h] using hk
theorem lower_ok {c : Int} (hk : K (.bool (lowB c)) n H) : ACall ⟨Try.prog, w0⟩ 77 [.int .u8 c] K n H := by
  refine ACall.run Try.func77 rfl Try.ntmps77 Try.results77 (by simp) fun J0 => ?_
  simp (disch := omega) [-hset_if, -Bool.decide_and, hset_ne]
  refine gif_dec (fun h => ?_) (fun h => ?_)
  · simp (disch := omega) [-hset_if, -Bool.decide_and, hset_ne]
    refine Fin_id ?_
    simpa [lowB, h] using hk
  · simp (disch := omega) [-hset_if, -Bool.decide_and, hset_ne]
    refine Fin_id ?_
    simpa [lowB, h] using hk
theorem digitR_ok {c : Int} (hk : K (.bool (digB c)) n H) : ACall ⟨Try.prog, w0⟩ 78 [.int .u8 c] K n H := by
  refine ACall.run Try.func78 rfl Try.ntmps78 Try.results78 (by simp) fun J0 => ?_
  simp (disch := omega) [-hset_if, -Bool.decide_and, hset_ne]
  refine gif_dec (fun h => ?_) (fun h => ?_)
  · simp (disch := omega) [-hset_if, -Bool.decide_and, hset_ne]
    refine Fin_id ?_
    simpa [digB, h] using hk
  · simp (disch := omega) [-hset_if, -Bool.decide_and, hset_ne]
    refine Fin_id ?_
    simpa [digB, h] using hk
theorem beq_eq_decide' (a b : Int) : (a == b) = decide (a = b) := by rw [Bool.eq_iff_iff]; simp
theorem okc_ok {i : Int} {b : Nat} (hb : H b = .cells [.string s] 9 1) (h0 : 0 ≤ i) (h1 : i < s.size) (hk : K (.bool (okc (bt s i))) n H) : ACall ⟨Try.prog, w0⟩ 75 [.int .i64 i, .pointer (some ⟨new b, 0, none⟩)] K n H := by
  refine ACall.run Try.func75 rfl Try.ntmps75 Try.results75 (by simp) fun J0 => ?_
  simp (disch := omega) [-hset_if, -Bool.decide_and, hset_ne, hb, h0, h1]
  refine gif_dec (fun h2 => ?_) (fun h2 => ?_)
  · simp (disch := omega) [-hset_if, -Bool.decide_and, hset_ne, hb, h0, h1]
    refine gif_dec (fun h3 => ?_) (fun h3 => ?_)
    · simp (disch := omega) [-hset_if, -Bool.decide_and, hset_ne, hb, h0, h1]
      refine Fin_id ?_
      simpa [okc, lowB, h2, h3] using hk
    · simp (disch := omega) [-hset_if, -Bool.decide_and, hset_ne, hb, h0, h1]
      refine digit_ok ?_
      simp (disch := omega) [-hset_if, -Bool.decide_and, hset_ne, hb, h0, h1]
      refine gif_var (fun h4 => ?_) (fun h4 => ?_)
      · simp (disch := omega) [-hset_if, -Bool.decide_and, hset_ne, hb, h0, h1]
        refine Fin_id ?_
        simpa [okc, lowB, h2, h3, h4, beq_eq_decide'] using hk
      · simp (disch := omega) [-hset_if, -Bool.decide_and, hset_ne, hb, h0, h1]
        refine Fin_id ?_
        simpa [okc, lowB, h2, h3, h4, beq_eq_decide'] using hk
  · simp (disch := omega) [-hset_if, -Bool.decide_and, hset_ne, hb, h0, h1]
    refine digit_ok ?_
    simp (disch := omega) [-hset_if, -Bool.decide_and, hset_ne, hb, h0, h1]
    refine gif_var (fun h4 => ?_) (fun h4 => ?_)
    · simp (disch := omega) [-hset_if, -Bool.decide_and, hset_ne, hb, h0, h1]
      refine Fin_id ?_
      simpa [okc, lowB, h2, h4, beq_eq_decide'] using hk
    · simp (disch := omega) [-hset_if, -Bool.decide_and, hset_ne, hb, h0, h1]
      refine Fin_id ?_
      simpa [okc, lowB, h2, h4, beq_eq_decide'] using hk
theorem run_ok {b : Nat} (hb : H b = .cells [.string s] 9 1) (hs : s.size ≤ 24) (hk : ∀ r : Nat, r ≤ s.size → (∀ q : Nat, q < r → okc (bt s q) = true) → (r < s.size → okc (bt s r) = false) → K (.int .i64 r) n H) :
    ACall ⟨Try.prog, w0⟩ 74 [.string s, .int .i64 0, .func (.func 75) #[] #[.pointer (some ⟨new b, 0, none⟩)]] K n H := by
  refine ACall.run Try.func74 rfl Try.ntmps74 Try.results74 (by simp) fun J0 => ?_
  simp (disch := omega) [-hset_if, -Bool.decide_and, hset_ne]
  refine AW.while (σ := Nat) (fun j => s.size - j) (fun j => [(0, .string s), (1, .int .i64 j), (2, .func (.func 75) #[] #[.pointer (some ⟨new b, 0, none⟩)])]) (fun j n1 H1 => j ≤ s.size ∧ n = n1 ∧ H = H1 ∧ ∀ q : Nat, q < j → okc (bt s q) = true) 0 ?_ ?_ ?_
  · simp (disch := omega) [-hset_if, -Bool.decide_and, hset_ne]
  · exact ⟨by omega, rfl, rfl, fun q hq => by omega⟩
  rintro j n1 H1 ⟨g1, rfl, rfl, g4⟩
  simp (disch := omega) [-hset_if, -Bool.decide_and, hset_ne]
  refine gif_dec (fun h => ?_) (fun h => ?_)
  · simp (disch := omega) [-hset_if, -Bool.decide_and, hset_ne]
    refine okc_ok hb (by omega) (by omega) ?_
    simp (disch := omega) [-hset_if, -Bool.decide_and, hset_ne]
    refine cif_var (fun hx => ?_) (fun hx => ?_)
    · simp (disch := omega) [-hset_if, -Bool.decide_and, hset_ne]
      refine Next.mk (j + 1) (by first | omega | (simp only; omega)) (by simp (disch := omega) [-hset_if, -Bool.decide_and, hset_ne]) ⟨by omega, rfl, rfl, fun q hq => ?_⟩
      by_cases e : q < j
      · exact g4 q e
      · obtain rfl : q = j := by omega
        exact hx
    · simp (disch := omega) [-hset_if, -Bool.decide_and, hset_ne]
      refine Fin_id (hk j g1 g4 (fun _ => by simpa using hx))
  · simp (disch := omega) [-hset_if, -Bool.decide_and, hset_ne]
    refine Fin_id (hk j g1 g4 (fun h' => absurd h' h))
theorem nameB_run {r : Nat} (h1 : 1 ≤ s.size) (h2 : s.size ≤ 24) (h3 : lowB (bt s 0) = true) (hr : r ≤ s.size) (ha : ∀ q : Nat, q < r → okc (bt s q) = true) (hb : r < s.size → okc (bt s r) = false) : nameB s = decide ((r : Int) = s.size) := by
  unfold nameB
  by_cases h : r = s.size
  · have e1 : (r : Int) = s.size := by omega
    have e2 : 1 ≤ s.size ∧ s.size ≤ 24 ∧ lowB (bt s 0) = true ∧ ∀ i : Nat, i < s.size → okc (bt s i) = true := ⟨h1, h2, h3, fun i hi => ha i (by omega)⟩
    exact (decide_eq_true e2).trans (decide_eq_true e1).symm
  · have e1 : ¬ (r : Int) = s.size := by omega
    have e2 : ¬ (1 ≤ s.size ∧ s.size ≤ 24 ∧ lowB (bt s 0) = true ∧ ∀ i : Nat, i < s.size → okc (bt s i) = true) := fun hc => by have := hb (by omega); rw [hc.2.2.2 r (by omega)] at this; cases this
    exact (decide_eq_false e2).trans (decide_eq_false e1).symm
theorem nameB_no (h : 1 ≤ s.size → s.size ≤ 24 → lowB (bt s 0) = true → False) : nameB s = false := decide_eq_false (fun hc => h hc.1 hc.2.1 hc.2.2.1)
theorem nameB_bad {j : Nat} (h : j < s.size) (hb : okc (bt s j) = false) : nameB s = false := decide_eq_false (fun hc => by have := hc.2.2.2 j h; rw [hb] at this; cases this)
theorem Name_ok (hk : ∀ n' H', n ≤ n' → (∀ i, i < n → H' i = H i) → K (.bool (nameB s)) n' H') : ACall ⟨Try.prog, w0⟩ 43 [.string s] K n H := by
  refine ACall.run Try.func43 rfl Try.ntmps43 Try.results43 (by simp) fun J0 => ?_
  simp (disch := omega) [-hset_if, -Bool.decide_and, hset_ne]
  refine gif_dec (fun h1 => ?_) (fun h1 => ?_)
  · simp (disch := omega) [-hset_if, -Bool.decide_and, hset_ne]
    refine Fin_id ?_
    rw [show nameB s = false from nameB_no (fun hc1 hc2 hc3 => by simp [lowB] at hc3; omega)] at hk
    exact hk _ _ (by omega) (fun i hi => by simp (disch := omega) only [hset_ne])
  · simp (disch := omega) [-hset_if, -Bool.decide_and, hset_ne]
    refine gif_dec (fun h2 => ?_) (fun h2 => ?_)
    · simp (disch := omega) [-hset_if, -Bool.decide_and, hset_ne]
      refine Fin_id ?_
      rw [show nameB s = false from nameB_no (fun hc1 hc2 hc3 => by simp [lowB] at hc3; omega)] at hk
      exact hk _ _ (by omega) (fun i hi => by simp (disch := omega) only [hset_ne])
    · have hz : 0 < s.size := by omega
      simp (disch := omega) [-hset_if, -Bool.decide_and, hset_ne, hz]
      refine gif_dec (fun h3 => ?_) (fun h3 => ?_)
      · simp (disch := omega) [-hset_if, -Bool.decide_and, hset_ne]
        refine Fin_id ?_
        rw [show nameB s = false from nameB_no (fun hc1 hc2 hc3 => by simp [lowB] at hc3; omega)] at hk
        exact hk _ _ (by omega) (fun i hi => by simp (disch := omega) only [hset_ne])
      · simp (disch := omega) [-hset_if, -Bool.decide_and, hset_ne, hz]
        refine cif_dec (fun h4 => ?_) (fun h4 => ?_)
        · simp (disch := omega) [-hset_if, -Bool.decide_and, hset_ne]
          refine Fin_id ?_
          rw [show nameB s = false from nameB_no (fun hc1 hc2 hc3 => by simp [lowB] at hc3; omega)] at hk
          exact hk _ _ (by omega) (fun i hi => by simp (disch := omega) only [hset_ne])
        · have h5 : lowB (bt s 0) = true := by simp [lowB]; omega
          simp (disch := omega) [-hset_if, -Bool.decide_and, hset_ne]
          refine AW.draw (X := ⟨_, 27, _, _⟩) (id := 3) mixed (.take 0 <| .take 1 <| .take 3 <| .take 4 <| .each 2 [3, 4] (.take 5 <| .take 6 <| .done) <| .stop) (by kernel_rfl) ?_
          simp (disch := omega) [-hset_if, -Bool.decide_and, hset_ne]
          refine run_ok (b := n) (by simp (disch := omega) [-hset_if, -Bool.decide_and, hset_ne]) (by omega) ?_
          intro r r1 r2 r3
          simp (disch := omega) [-hset_if, -Bool.decide_and, hset_ne]
          refine Fin_id ?_
          rw [nameB_run (by omega) (by omega) h5 r1 r2 r3] at hk
          rw [beq_eq_decide']
          exact hk _ _ (by omega) (fun i hi => by simp (disch := omega) only [hset_ne])
theorem NameR_ok (hk : K (.bool (nameB s)) n H) : ACall ⟨Try.prog, w0⟩ 48 [.string s] K n H := by
  refine ACall.run Try.func48 rfl Try.ntmps48 Try.results48 (by simp) fun J0 => ?_
  simp (disch := omega) [-hset_if, -Bool.decide_and, hset_ne]
  refine gif_dec (fun h1 => ?_) (fun h1 => ?_)
  · simp (disch := omega) [-hset_if, -Bool.decide_and, hset_ne]
    refine Fin_id ?_
    rwa [show nameB s = false from nameB_no (fun hc1 hc2 hc3 => by first | omega | simp_all)] at hk
  · simp (disch := omega) [-hset_if, -Bool.decide_and, hset_ne]
    refine gif_dec (fun h2 => ?_) (fun h2 => ?_)
    · simp (disch := omega) [-hset_if, -Bool.decide_and, hset_ne]
      refine Fin_id ?_
      rwa [show nameB s = false from nameB_no (fun hc1 hc2 hc3 => by first | omega | simp_all)] at hk
    · have hz : 0 < s.size := by omega
      simp (disch := omega) [-hset_if, -Bool.decide_and, hset_ne, hz]
      refine lower_ok ?_
      simp (disch := omega) [-hset_if, -Bool.decide_and, hset_ne]
      refine cif_var (fun h3 => ?_) (fun h3 => ?_)
      · simp (disch := omega) [-hset_if, -Bool.decide_and, hset_ne]
        refine AW.while (σ := Nat) (fun j => s.size - j) (fun j => [(0, .string s), (3, .int .i64 j)]) (fun j n1 H1 => 1 ≤ j ∧ j ≤ s.size ∧ n = n1 ∧ H = H1 ∧ ∀ q : Nat, q < j → okc (bt s q) = true) 1 ?_ ?_ ?_
        · simp (disch := omega) [-hset_if, -Bool.decide_and, hset_ne]
        · exact ⟨by omega, by omega, rfl, rfl, fun q hq => by (obtain rfl : q = 0 := by omega); simp [okc, h3]⟩
        rintro j n1 H1 ⟨g0, g1, rfl, rfl, g4⟩
        simp (disch := omega) [-hset_if, -Bool.decide_and, hset_ne]
        refine cif_dec (fun h => ?_) (fun h => ?_)
        · simp (disch := omega) [-hset_if, -Bool.decide_and, hset_ne, h]
          refine lower_ok ?_
          simp (disch := omega) [-hset_if, -Bool.decide_and, hset_ne]
          refine gif_var (fun h5 => ?_) (fun h5 => ?_)
          · simp at h5
            simp (disch := omega) [-hset_if, -Bool.decide_and, hset_ne, h]
            refine digitR_ok ?_
            simp (disch := omega) [-hset_if, -Bool.decide_and, hset_ne, h]
            refine gif_var (fun h6 => ?_) (fun h6 => ?_)
            · simp at h6
              simp (disch := omega) [-hset_if, -Bool.decide_and, hset_ne, h]
              refine cif_bne (fun h7 => ?_) (fun h7 => ?_)
              · simp (disch := omega) [-hset_if, -Bool.decide_and, hset_ne]
                refine Next.mk (j + 1) (by first | omega | (simp only; omega)) (by simp (disch := omega) [-hset_if, -Bool.decide_and, hset_ne]) ⟨by omega, by omega, rfl, rfl, fun q hq => ?_⟩
                by_cases e : q < j
                · exact g4 q e
                · obtain rfl : q = j := by omega
                  simp [okc, h5, h6, h7]
              · simp (disch := omega) [-hset_if, -Bool.decide_and, hset_ne]
                refine Fin_id ?_
                rwa [show nameB s = false from nameB_bad h (by simp [okc, h5, h6, h7])] at hk
            · simp at h6
              simp (disch := omega) [-hset_if, -Bool.decide_and, hset_ne, h]
              refine Next.mk (j + 1) (by first | omega | (simp only; omega)) (by simp (disch := omega) [-hset_if, -Bool.decide_and, hset_ne]) ⟨by omega, by omega, rfl, rfl, fun q hq => ?_⟩
              by_cases e : q < j
              · exact g4 q e
              · obtain rfl : q = j := by omega
                simp [okc, h5, h6]
          · simp at h5
            simp (disch := omega) [-hset_if, -Bool.decide_and, hset_ne]
            refine Next.mk (j + 1) (by first | omega | (simp only; omega)) (by simp (disch := omega) [-hset_if, -Bool.decide_and, hset_ne]) ⟨by omega, by omega, rfl, rfl, fun q hq => ?_⟩
            by_cases e : q < j
            · exact g4 q e
            · obtain rfl : q = j := by omega
              simp [okc, h5]
        · simp (disch := omega) [-hset_if, -Bool.decide_and, hset_ne]
          refine Fin_id ?_
          rwa [show nameB s = true from decide_eq_true ⟨by omega, by omega, h3, fun i hi => g4 i (by omega)⟩] at hk
      · simp (disch := omega) [-hset_if, -Bool.decide_and, hset_ne]
        refine Fin_id ?_
        rwa [show nameB s = false from nameB_no (fun hc1 hc2 hc3 => by first | omega | simp_all)] at hk
def strV (s : ByteArray) : Value := .string s
theorem indexS_ok {pv : Value} {D : Nat → Prop} {ps : List ByteArray} (hp : SlR ⟨Try.prog, w0⟩ H D 1 strC pv ps) (hb : ps.length < 9223372036854775807) (hk : K (.int .i64 (fidx (fun x => decide (x = s)) ps)) n H) : ACall ⟨Try.prog, w0⟩ 51 [pv, .string s] K n H := by
  have hpc := hp.cells
  refine ACall.run Try.func51 rfl Try.ntmps51 Try.results51 (by simp) fun J0 => ?_
  simp (disch := omega) [-hset_if, -Bool.decide_and, hset_ne, hp.lenK]
  refine AW.while (σ := Nat) (fun j => ps.length - j) (fun j => [(0, pv), (1, .string s), (7, .int .i64 ps.length), (8, .int .i64 j)]) (fun j n1 H1 => j ≤ ps.length ∧ n = n1 ∧ H = H1 ∧ ∀ q : Nat, q < j → (decide (at_ ps (q : Int) = s)) = false) 0 ?_ ?_ ?_
  · simp (disch := omega) [-hset_if, -Bool.decide_and, hset_ne]
  · exact ⟨by omega, rfl, rfl, fun q hq => by omega⟩
  rintro j n1 H1 ⟨g1, rfl, rfl, g4⟩
  simp (disch := omega) [-hset_if, -Bool.decide_and, hset_ne]
  refine cif_dec (fun h => ?_) (fun h => ?_)
  · simp (disch := omega) [-hset_if, -Bool.decide_and, hset_ne, hp.ix elemS22, hp.load0 shp9, strC]
    refine cif_dec (fun hx => ?_) (fun hx => ?_)
    · simp (disch := omega) [-hset_if, -Bool.decide_and, hset_ne]
      refine Fin_id ?_
      rwa [fidx_found h (by simp [hx]) g4] at hk
    · simp (disch := omega) [-hset_if, -Bool.decide_and, hset_ne]
      refine Next.mk (j + 1) (by first | omega | (simp only; omega)) (by simp (disch := omega) [-hset_if, -Bool.decide_and, hset_ne]) ⟨by omega, rfl, rfl, fun q hq => ?_⟩
      by_cases e : q < j
      · simpa using g4 q e
      · obtain rfl : q = j := by omega
        simpa using fun hc => hx hc.symm
  · simp (disch := omega) [-hset_if, -Bool.decide_and, hset_ne]
    refine Fin_id ?_
    rwa [fidx_none (fun q hq => g4 q (by omega))] at hk
theorem containsS_ok {pv : Value} {D : Nat → Prop} {ps : List ByteArray} (hp : SlR ⟨Try.prog, w0⟩ H D 1 strC pv ps) (hb : ps.length < 9223372036854775807) (hk : K (.bool (ps.any fun x => decide (x = s))) n H) : ACall ⟨Try.prog, w0⟩ 46 [pv, .string s] K n H := by
  have hpc := hp.cells
  refine ACall.run Try.func46 rfl Try.ntmps46 Try.results46 (by simp) fun J0 => ?_
  simp (disch := omega) [-hset_if, -Bool.decide_and, hset_ne]
  refine indexS_ok hp hb ?_
  simp (disch := omega) [-hset_if, -Bool.decide_and, hset_ne]
  refine Fin_id ?_
  rwa [fidx_any]
end Go.Aw.S15
