/-
  Chapter 56: loads; names; the calls that answer by their arguments alone.
-/
import Derived.Test.YtmppccnafhckoaaAwTab
import Derived.Test.YtmppccnafhckoaaAw17
namespace Go.Aw.S56
open Go.RowKit Go.Proofs Go.Aw.Tab
set_option linter.unusedSimpArgs false
set_option linter.unusedVariables false
set_option maxRecDepth 10000
set_option maxHeartbeats 1000000
set_option pp.deepTerms false
set_option pp.deepTerms.threshold 4
set_option pp.maxSteps 1500
theorem mixed : Try.prog.follows .mixedOrders = true := by kernel_rfl
structure Load where
  nm : ByteArray
  pr : Int
  pw : Int
  on : Int
  off : Int
  deriving Inhabited, DecidableEq
def Load.cells (h : Load) : List Value := [.string h.nm, .int .i64 h.pr, .int .i64 h.pw, .int .i64 h.on, .int .i64 h.off]
structure Sta where
  shed : Bool
  since : Int
  deriving Inhabited, DecidableEq
def Sta.cells (s : Sta) : List Value := [.bool s.shed, .int .i64 s.since]
def intC (x : Int) : List Value := [.int .i64 x]
attribute [local simp] Load.cells Sta.cells intC
variable {w0 : World} {n : Nat} {H : Heap} {K : Value → Nat → Heap → Prop} {s : ByteArray}
theorem digit_ok {c : Int} (hk : K (.bool (digB c)) n H) : ACall ⟨Try.prog, w0⟩ 61 [.int .u8 c] K n H := by
  refine ACall.run Try.func61 rfl Try.ntmps61 Try.results61 (by simp) fun J0 => ?_
  simp (disch := omega) [-hset_if, -Bool.decide_and, hset_ne]
  refine gif_dec (fun h => ?_) (fun h => ?_)
  · simp (disch := omega) [-hset_if, -Bool.decide_and, hset_ne]
    refine Fin_id ?_
    simpa [digB, h] using hk
  · simp (disch := omega) [-hset_if, -Bool.decide_and, hset_ne]
    refine Fin_id ?_
    simpa [digB, h] using hk
theorem okc_ok {i : Int} {b : Nat} (hb : H b = .cells [.string s] 9 1) (h0 : 0 ≤ i) (h1 : i < s.size) (hk : K (.bool (okc (bt s i))) n H) : ACall ⟨Try.prog, w0⟩ 60 [.int .i64 i, .pointer (some ⟨new b, 0, none⟩)] K n H := by
  refine ACall.run Try.func60 rfl Try.ntmps60 Try.results60 (by simp) fun J0 => ?_
  simp (disch := omega) [-hset_if, -Bool.decide_and, hset_ne, hb, h0, h1]
  refine gif_dec (fun h2 => ?_) (fun h2 => ?_)
  · simp (disch := omega) [-hset_if, -Bool.decide_and, hset_ne, hb, h0, h1]
    refine gif_dec (fun h3 => ?_) (fun h3 => ?_)
    · simp (disch := omega) [-hset_if, -Bool.decide_and, hset_ne, hb, h0, h1]
      refine Fin_id ?_
      simpa [okc, lowB, h2, h3] using hk
    · simp (disch := omega) [-hset_if, -Bool.decide_and, hset_ne, hb, h0, h1]
      refine digit_ok ?_
      simp (disch := omega) [-hset_if, -Bool.decide_and, hset_ne, hb, h0, h1]
      refine gif_var (fun h4 => ?_) (fun h4 => ?_)
      · simp (disch := omega) [-hset_if, -Bool.decide_and, hset_ne, hb, h0, h1]
        refine Fin_id ?_
        simpa [okc, lowB, h2, h3, h4, beq_eq_decide'] using hk
      · simp (disch := omega) [-hset_if, -Bool.decide_and, hset_ne, hb, h0, h1]
        refine Fin_id ?_
        simpa [okc, lowB, h2, h3, h4, beq_eq_decide'] using hk
  · simp (disch := omega) [-hset_if, -Bool.decide_and, hset_ne, hb, h0, h1]
    refine digit_ok ?_
    simp (disch := omega) [-hset_if, -Bool.decide_and, hset_ne, hb, h0, h1]
    refine gif_var (fun h4 => ?_) (fun h4 => ?_)
    · simp (disch := omega) [-hset_if, -Bool.decide_and, hset_ne, hb, h0, h1]
      refine Fin_id ?_
      simpa [okc, lowB, h2, h4, beq_eq_decide'] using hk
    · simp (disch := omega) [-hset_if, -Bool.decide_and, hset_ne, hb, h0, h1]
      refine Fin_id ?_
      simpa [okc, lowB, h2, h4, beq_eq_decide'] using hk
theorem run_ok {b : Nat} (hb : H b = .cells [.string s] 9 1) (hs : s.size ≤ 24) (hk : ∀ r : Nat, r ≤ s.size → (∀ q : Nat, q < r → okc (bt s q) = true) → (r < s.size → okc (bt s r) = false) → K (.int .i64 r) n H) :
    ACall ⟨Try.prog, w0⟩ 59 [.string s, .int .i64 0, .func (.func 60) #[] #[.pointer (some ⟨new b, 0, none⟩)]] K n H := by
  refine ACall.run Try.func59 rfl Try.ntmps59 Try.results59 (by simp) fun J0 => ?_
  simp (disch := omega) [-hset_if, -Bool.decide_and, hset_ne]
  refine AW.while (σ := Nat) (fun j => s.size - j) (fun j => [(0, .string s), (1, .int .i64 j), (2, .func (.func 60) #[] #[.pointer (some ⟨new b, 0, none⟩)])]) (fun j n1 H1 => j ≤ s.size ∧ n = n1 ∧ H = H1 ∧ ∀ q : Nat, q < j → okc (bt s q) = true) 0 ?_ ?_ ?_
  · simp (disch := omega) [-hset_if, -Bool.decide_and, hset_ne]
  · exact ⟨by omega, rfl, rfl, fun q hq => by omega⟩
  rintro j n1 H1 ⟨g1, rfl, rfl, g4⟩
  simp (disch := omega) [-hset_if, -Bool.decide_and, hset_ne]
  refine gif_dec (fun h => ?_) (fun h => ?_)
  · simp (disch := omega) [-hset_if, -Bool.decide_and, hset_ne]
    refine okc_ok hb (by omega) (by omega) ?_
    simp (disch := omega) [-hset_if, -Bool.decide_and, hset_ne]
    refine cif_var (fun hx => ?_) (fun hx => ?_)
    · simp (disch := omega) [-hset_if, -Bool.decide_and, hset_ne]
      refine Next.mk (j + 1) (by first | omega | (simp only; omega)) (by simp (disch := omega) [-hset_if, -Bool.decide_and, hset_ne]) ⟨by omega, rfl, rfl, fun q hq => ?_⟩
      by_cases e : q < j
      · exact g4 q e
      · obtain rfl : q = j := by omega
        exact hx
    · simp (disch := omega) [-hset_if, -Bool.decide_and, hset_ne]
      refine Fin_id (hk j g1 g4 (fun _ => by simpa using hx))
  · simp (disch := omega) [-hset_if, -Bool.decide_and, hset_ne]
    refine Fin_id (hk j g1 g4 (fun h' => absurd h' h))
theorem Name_ok (hk : ∀ n' H', n ≤ n' → (∀ i, i < n → H' i = H i) → K (.bool (nameB s)) n' H') : ACall ⟨Try.prog, w0⟩ 37 [.string s] K n H := by
  refine ACall.run Try.func37 rfl Try.ntmps37 Try.results37 (by simp) fun J0 => ?_
  simp (disch := omega) [-hset_if, -Bool.decide_and, hset_ne]
  refine gif_dec (fun h1 => ?_) (fun h1 => ?_)
  · simp (disch := omega) [-hset_if, -Bool.decide_and, hset_ne]
    refine Fin_id ?_
    rw [show nameB s = false from nameB_no (fun hc1 hc2 hc3 => by simp [lowB] at hc3; omega)] at hk
    exact hk _ _ (by omega) (fun i hi => by simp (disch := omega) only [hset_ne])
  · simp (disch := omega) [-hset_if, -Bool.decide_and, hset_ne]
    refine gif_dec (fun h2 => ?_) (fun h2 => ?_)
    · simp (disch := omega) [-hset_if, -Bool.decide_and, hset_ne]
      refine Fin_id ?_
      rw [show nameB s = false from nameB_no (fun hc1 hc2 hc3 => by simp [lowB] at hc3; omega)] at hk
      exact hk _ _ (by omega) (fun i hi => by simp (disch := omega) only [hset_ne])
    · have hz : 0 < s.size := by omega
      simp (disch := omega) [-hset_if, -Bool.decide_and, hset_ne, hz]
      refine gif_dec (fun h3 => ?_) (fun h3 => ?_)
      · simp (disch := omega) [-hset_if, -Bool.decide_and, hset_ne]
        refine Fin_id ?_
        rw [show nameB s = false from nameB_no (fun hc1 hc2 hc3 => by simp [lowB] at hc3; omega)] at hk
        exact hk _ _ (by omega) (fun i hi => by simp (disch := omega) only [hset_ne])
      · simp (disch := omega) [-hset_if, -Bool.decide_and, hset_ne, hz]
        refine cif_dec (fun h4 => ?_) (fun h4 => ?_)
        · simp (disch := omega) [-hset_if, -Bool.decide_and, hset_ne]
          refine Fin_id ?_
          rw [show nameB s = false from nameB_no (fun hc1 hc2 hc3 => by simp [lowB] at hc3; omega)] at hk
          exact hk _ _ (by omega) (fun i hi => by simp (disch := omega) only [hset_ne])
        · have h5 : lowB (bt s 0) = true := by simp [lowB]; omega
          simp (disch := omega) [-hset_if, -Bool.decide_and, hset_ne]
          refine AW.draw (X := ⟨_, 27, _, _⟩) (id := 3) mixed (.take 0 <| .take 1 <| .take 3 <| .take 4 <| .each 2 [3, 4] (.take 5 <| .take 6 <| .done) <| .stop) (by kernel_rfl) ?_
          simp (disch := omega) [-hset_if, -Bool.decide_and, hset_ne]
          refine run_ok (b := n) (by simp (disch := omega) [-hset_if, -Bool.decide_and, hset_ne]) (by omega) ?_
          intro r r1 r2 r3
          simp (disch := omega) [-hset_if, -Bool.decide_and, hset_ne]
          refine Fin_id ?_
          rw [nameB_run (by omega) (by omega) h5 r1 r2 r3] at hk
          rw [beq_eq_decide']
          exact hk _ _ (by omega) (fun i hi => by simp (disch := omega) only [hset_ne])
theorem lower_ok {c : Int} (hk : K (.bool (lowB c)) n H) : ACall ⟨Try.prog, w0⟩ 57 [.int .u8 c] K n H := by
  refine ACall.run Try.func57 rfl Try.ntmps57 Try.results57 (by simp) fun J0 => ?_
  simp (disch := omega) [-hset_if, -Bool.decide_and, hset_ne]
  refine gif_dec (fun h => ?_) (fun h => ?_)
  · simp (disch := omega) [-hset_if, -Bool.decide_and, hset_ne]
    refine Fin_id ?_
    simpa [lowB, h] using hk
  · simp (disch := omega) [-hset_if, -Bool.decide_and, hset_ne]
    refine Fin_id ?_
    simpa [lowB, h] using hk
theorem digitR_ok {c : Int} (hk : K (.bool (digB c)) n H) : ACall ⟨Try.prog, w0⟩ 58 [.int .u8 c] K n H := by
  refine ACall.run Try.func58 rfl Try.ntmps58 Try.results58 (by simp) fun J0 => ?_
  simp (disch := omega) [-hset_if, -Bool.decide_and, hset_ne]
  refine gif_dec (fun h => ?_) (fun h => ?_)
  · simp (disch := omega) [-hset_if, -Bool.decide_and, hset_ne]
    refine Fin_id ?_
    simpa [digB, h] using hk
  · simp (disch := omega) [-hset_if, -Bool.decide_and, hset_ne]
    refine Fin_id ?_
    simpa [digB, h] using hk
theorem NameR_ok (hk : K (.bool (nameB s)) n H) : ACall ⟨Try.prog, w0⟩ 35 [.string s] K n H := by
  refine ACall.run Try.func35 rfl Try.ntmps35 Try.results35 (by simp) fun J0 => ?_
  simp (disch := omega) [-hset_if, -Bool.decide_and, hset_ne]
  refine gif_dec (fun h1 => ?_) (fun h1 => ?_)
  · simp (disch := omega) [-hset_if, -Bool.decide_and, hset_ne]
    refine Fin_id ?_
    rwa [show nameB s = false from nameB_no (fun hc1 hc2 hc3 => by first | omega | simp_all)] at hk
  · simp (disch := omega) [-hset_if, -Bool.decide_and, hset_ne]
    refine gif_dec (fun h2 => ?_) (fun h2 => ?_)
    · simp (disch := omega) [-hset_if, -Bool.decide_and, hset_ne]
      refine Fin_id ?_
      rwa [show nameB s = false from nameB_no (fun hc1 hc2 hc3 => by first | omega | simp_all)] at hk
    · have hz : 0 < s.size := by omega
      simp (disch := omega) [-hset_if, -Bool.decide_and, hset_ne, hz]
      refine lower_ok ?_
      simp (disch := omega) [-hset_if, -Bool.decide_and, hset_ne]
      refine cif_var (fun h3 => ?_) (fun h3 => ?_)
      · simp (disch := omega) [-hset_if, -Bool.decide_and, hset_ne]
        refine AW.while (σ := Nat) (fun j => s.size - j) (fun j => [(0, .string s), (3, .int .i64 j)]) (fun j n1 H1 => 1 ≤ j ∧ j ≤ s.size ∧ n = n1 ∧ H = H1 ∧ ∀ q : Nat, q < j → okc (bt s q) = true) 1 ?_ ?_ ?_
        · simp (disch := omega) [-hset_if, -Bool.decide_and, hset_ne]
        · exact ⟨by omega, by omega, rfl, rfl, fun q hq => by (obtain rfl : q = 0 := by omega); simp [okc, h3]⟩
        rintro j n1 H1 ⟨g0, g1, rfl, rfl, g4⟩
        simp (disch := omega) [-hset_if, -Bool.decide_and, hset_ne]
        refine cif_dec (fun h => ?_) (fun h => ?_)
        · simp (disch := omega) [-hset_if, -Bool.decide_and, hset_ne, h]
          refine lower_ok ?_
          simp (disch := omega) [-hset_if, -Bool.decide_and, hset_ne]
          refine gif_var (fun h5 => ?_) (fun h5 => ?_)
          · simp at h5
            simp (disch := omega) [-hset_if, -Bool.decide_and, hset_ne, h]
            refine digitR_ok ?_
            simp (disch := omega) [-hset_if, -Bool.decide_and, hset_ne, h]
            refine gif_var (fun h6 => ?_) (fun h6 => ?_)
            · simp at h6
              simp (disch := omega) [-hset_if, -Bool.decide_and, hset_ne, h]
              refine cif_bne (fun h7 => ?_) (fun h7 => ?_)
              · simp (disch := omega) [-hset_if, -Bool.decide_and, hset_ne]
                refine Next.mk (j + 1) (by first | omega | (simp only; omega)) (by simp (disch := omega) [-hset_if, -Bool.decide_and, hset_ne]) ⟨by omega, by omega, rfl, rfl, fun q hq => ?_⟩
                by_cases e : q < j
                · exact g4 q e
                · obtain rfl : q = j := by omega
                  simp [okc, h5, h6, h7]
              · simp (disch := omega) [-hset_if, -Bool.decide_and, hset_ne]
                refine Fin_id ?_
                rwa [show nameB s = false from nameB_bad h (by simp [okc, h5, h6, h7])] at hk
            · simp at h6
              simp (disch := omega) [-hset_if, -Bool.decide_and, hset_ne, h]
              refine Next.mk (j + 1) (by first | omega | (simp only; omega)) (by simp (disch := omega) [-hset_if, -Bool.decide_and, hset_ne]) ⟨by omega, by omega, rfl, rfl, fun q hq => ?_⟩
              by_cases e : q < j
              · exact g4 q e
              · obtain rfl : q = j := by omega
                simp [okc, h5, h6]
          · simp at h5
            simp (disch := omega) [-hset_if, -Bool.decide_and, hset_ne]
            refine Next.mk (j + 1) (by first | omega | (simp only; omega)) (by simp (disch := omega) [-hset_if, -Bool.decide_and, hset_ne]) ⟨by omega, by omega, rfl, rfl, fun q hq => ?_⟩
            by_cases e : q < j
            · exact g4 q e
            · obtain rfl : q = j := by omega
              simp [okc, h5]
        · simp (disch := omega) [-hset_if, -Bool.decide_and, hset_ne]
          refine Fin_id ?_
          rwa [show nameB s = true from decide_eq_true ⟨by omega, by omega, h3, fun i hi => g4 i (by omega)⟩] at hk
      · simp (disch := omega) [-hset_if, -Bool.decide_and, hset_ne]
        refine Fin_id ?_
        rwa [show nameB s = false from nameB_no (fun hc1 hc2 hc3 => by first | omega | simp_all)] at hk
theorem name_ok (hk : K (.bool (nameB s)) n H) : ACall ⟨Try.prog, w0⟩ 37 [.string s] K n H := ACall.res (fun _ h => Name_ok h) (by simp) hk
theorem btw_ok {x a b : Int} (hk : K (.bool (decide (a ≤ x ∧ x ≤ b))) n H) : ACall ⟨Try.prog, w0⟩ 40 [.int .i64 x, .int .i64 a, .int .i64 b] K n H := by
  refine ACall.res (fun K' hr => ?_) (by simp) hk
  refine ACall.run Try.func40 rfl Try.ntmps40 Try.results40 (by simp) fun J0 => ?_
  simp (disch := omega) [-hset_if, -Bool.decide_and, hset_ne]
  repeat' (first | (with_reducible intro _; first | (exfalso; omega) | (simp (disch := omega) [-hset_if, -Bool.decide_and, hset_ne]) | skip) | (with_reducible refine And.intro ?_ ?_; omega) | with_reducible apply cif_dec | with_reducible apply cif_beq | with_reducible apply cif_bne | with_reducible apply cif_var | with_reducible apply gif_dec | with_reducible apply gif_ndec | with_reducible apply gif_beq | with_reducible apply gif_bne | with_reducible apply gif_nbeq | with_reducible apply gif_var)
  all_goals refine hr.fin ?_ (by omega) (fun i hi => by simp (disch := omega) only [hset_ne])
  all_goals (congr 1; rw [Bool.eq_iff_iff]; simp; omega)
theorem btw64_ok {x a b : Int} (hk : K (.bool (decide (a ≤ x ∧ x ≤ b))) n H) : ACall ⟨Try.prog, w0⟩ 41 [.int .i64 x, .int .i64 a, .int .i64 b] K n H := by
  refine ACall.res (fun K' hr => ?_) (by simp) hk
  refine ACall.run Try.func41 rfl Try.ntmps41 Try.results41 (by simp) fun J0 => ?_
  simp (disch := omega) [-hset_if, -Bool.decide_and, hset_ne]
  repeat' (first | (with_reducible intro _; first | (exfalso; omega) | (simp (disch := omega) [-hset_if, -Bool.decide_and, hset_ne]) | skip) | (with_reducible refine And.intro ?_ ?_; omega) | with_reducible apply cif_dec | with_reducible apply cif_beq | with_reducible apply cif_bne | with_reducible apply cif_var | with_reducible apply gif_dec | with_reducible apply gif_ndec | with_reducible apply gif_beq | with_reducible apply gif_bne | with_reducible apply gif_nbeq | with_reducible apply gif_var)
  all_goals refine hr.fin ?_ (by omega) (fun i hi => by simp (disch := omega) only [hset_ne])
  all_goals (congr 1; rw [Bool.eq_iff_iff]; simp; omega)
def inB (x : Int) : Bool := decide (-1000000000000 ≤ x ∧ x ≤ 1000000000000)
theorem inside_ok {x : Int} (hk : K (.bool (inB x)) n H) : ACall ⟨Try.prog, w0⟩ 19 [.int .i64 x] K n H := by
  refine ACall.res (fun K' hr => ?_) (by simp) hk
  refine ACall.run Try.func19 rfl Try.ntmps19 Try.results19 (by simp) fun J0 => ?_
  simp (disch := omega) [-hset_if, -Bool.decide_and, hset_ne]
  repeat' (first | (with_reducible intro _; first | (exfalso; omega) | (simp (disch := omega) [-hset_if, -Bool.decide_and, hset_ne]) | skip) | (with_reducible refine And.intro ?_ ?_; omega) | with_reducible apply cif_dec | with_reducible apply cif_beq | with_reducible apply cif_bne | with_reducible apply cif_var | with_reducible apply gif_dec | with_reducible apply gif_ndec | with_reducible apply gif_beq | with_reducible apply gif_bne | with_reducible apply gif_nbeq | with_reducible apply gif_var)
  all_goals refine hr.fin ?_ (by omega) (fun i hi => by simp (disch := omega) only [hset_ne])
  all_goals (congr 1; rw [Bool.eq_iff_iff]; simp [inB]; omega)
theorem insideR_ok {x : Int} (hk : K (.bool (inB x)) n H) : ACall ⟨Try.prog, w0⟩ 43 [.int .i64 x] K n H := by
  refine ACall.res (fun K' hr => ?_) (by simp) hk
  refine ACall.run Try.func43 rfl Try.ntmps43 Try.results43 (by simp) fun J0 => ?_
  simp (disch := omega) [-hset_if, -Bool.decide_and, hset_ne]
  repeat' (first | (with_reducible intro _; first | (exfalso; omega) | (simp (disch := omega) [-hset_if, -Bool.decide_and, hset_ne]) | skip) | (with_reducible refine And.intro ?_ ?_; omega) | with_reducible apply cif_dec | with_reducible apply cif_beq | with_reducible apply cif_bne | with_reducible apply cif_var | with_reducible apply gif_dec | with_reducible apply gif_ndec | with_reducible apply gif_beq | with_reducible apply gif_bne | with_reducible apply gif_nbeq | with_reducible apply gif_var)
  all_goals refine hr.fin ?_ (by omega) (fun i hi => by simp (disch := omega) only [hset_ne])
  all_goals (congr 1; rw [Bool.eq_iff_iff]; simp [inB]; omega)
def rngB (l : Load) : Bool := decide (1 ≤ l.pr ∧ l.pr ≤ 100 ∧ 0 ≤ l.pw ∧ l.pw ≤ 15625000000 ∧ 0 ≤ l.on ∧ l.on ≤ 86400 ∧ 0 ≤ l.off ∧ l.off ≤ 86400)
theorem ranges_ok (r : Load) (hk : K (.bool (rngB r)) n H) : ACall ⟨Try.prog, w0⟩ 36 [.agg r.cells.toArray] K n H := by
  refine ACall.res (fun K' hr => ?_) (by simp) hk
  refine ACall.run Try.func36 rfl Try.ntmps36 Try.results36 (by simp) fun J0 => ?_
  simp (disch := omega) [-hset_if, -Bool.decide_and, hset_ne]
  repeat' (first | (with_reducible intro _; first | (exfalso; omega) | (simp (disch := omega) [-hset_if, -Bool.decide_and, hset_ne]) | skip) | (with_reducible refine And.intro ?_ ?_; omega) | with_reducible apply cif_dec | with_reducible apply cif_beq | with_reducible apply cif_bne | with_reducible apply cif_var | with_reducible apply gif_dec | with_reducible apply gif_ndec | with_reducible apply gif_beq | with_reducible apply gif_bne | with_reducible apply gif_nbeq | with_reducible apply gif_var)
  all_goals refine hr.fin ?_ (by omega) (fun i hi => by simp (disch := omega) only [hset_ne])
  all_goals (congr 1; rw [Bool.eq_iff_iff]; simp [rngB]; omega)
def lsB (x y : ByteArray) : Bool := Op.bytesLess x.toList y.toList
/-- A load is shed before another one. -/
def bef (a b : Load) : Bool := if a.pr ≠ b.pr then decide (b.pr < a.pr) else if a.pw ≠ b.pw then decide (b.pw < a.pw) else lsB a.nm b.nm
theorem before_ok (a b : Load) (hk : K (.bool (bef a b)) n H) : ACall ⟨Try.prog, w0⟩ 42 [.agg a.cells.toArray, .agg b.cells.toArray] K n H := by
  refine ACall.res (fun K' hr => ?_) (by simp) hk
  refine ACall.run Try.func42 rfl Try.ntmps42 Try.results42 (by simp) fun J0 => ?_
  simp (disch := omega) [-hset_if, -Bool.decide_and, hset_ne]
  refine cif_bne (fun h1 => ?_) (fun h1 => ?_)
  · simp (disch := omega) [-hset_if, -Bool.decide_and, hset_ne]
    refine cif_bne (fun h2 => ?_) (fun h2 => ?_)
    · simp (disch := omega) [-hset_if, -Bool.decide_and, hset_ne]
      refine hr.fin ?_ (by omega) (fun i hi => by simp (disch := omega) only [hset_ne])
      unfold bef
      rw [if_neg (by omega), if_neg (by omega)]; rfl
    · simp (disch := omega) [-hset_if, -Bool.decide_and, hset_ne]
      refine hr.fin ?_ (by omega) (fun i hi => by simp (disch := omega) only [hset_ne])
      unfold bef
      rw [if_neg (by omega), if_pos h2]
  · simp (disch := omega) [-hset_if, -Bool.decide_and, hset_ne]
    refine hr.fin ?_ (by omega) (fun i hi => by simp (disch := omega) only [hset_ne])
    unfold bef
    rw [if_pos h1]
theorem isNaN_ok {x : Int} (hk : K (.bool false) n H) : ACall ⟨Try.prog, w0⟩ 70 [.int .i64 x] K n H := by
  refine ACall.res (fun K' hr => ?_) (by simp) hk
  refine ACall.run Try.func70 rfl Try.ntmps70 Try.results70 (by simp) fun J0 => ?_
  simp (disch := omega) [-hset_if, -Bool.decide_and, hset_ne]
  exact hr.fin (by simp) (by omega) (fun i hi => by simp (disch := omega) only [hset_ne])
theorem isNaN64_ok {x : Int} (hk : K (.bool false) n H) : ACall ⟨Try.prog, w0⟩ 71 [.int .i64 x] K n H := by
  refine ACall.res (fun K' hr => ?_) (by simp) hk
  refine ACall.run Try.func71 rfl Try.ntmps71 Try.results71 (by simp) fun J0 => ?_
  simp (disch := omega) [-hset_if, -Bool.decide_and, hset_ne]
  exact hr.fin (by simp) (by omega) (fun i hi => by simp (disch := omega) only [hset_ne])
def cmpI (x y : Int) : Int := if x < y then -1 else if y < x then 1 else 0
theorem cmp_ok {x y : Int} (hk : K (.int .i64 (cmpI x y)) n H) : ACall ⟨Try.prog, w0⟩ 54 [.int .i64 x, .int .i64 y] K n H := by
  refine ACall.res (fun K' hr => ?_) (by simp) hk
  refine ACall.run Try.func54 rfl Try.ntmps54 Try.results54 (by simp) fun J0 => ?_
  simp (disch := omega) [-hset_if, -Bool.decide_and, hset_ne]
  refine isNaN_ok ?_
  simp (disch := omega) [-hset_if, -Bool.decide_and, hset_ne]
  refine isNaN_ok ?_
  simp (disch := omega) [-hset_if, -Bool.decide_and, hset_ne]
  repeat' (first | (with_reducible intro _; first | (exfalso; omega) | (simp (disch := omega) [-hset_if, -Bool.decide_and, hset_ne]) | skip) | (with_reducible refine And.intro ?_ ?_; omega) | with_reducible apply cif_dec | with_reducible apply cif_beq | with_reducible apply cif_bne | with_reducible apply cif_var | with_reducible apply gif_dec | with_reducible apply gif_ndec | with_reducible apply gif_beq | with_reducible apply gif_bne | with_reducible apply gif_nbeq | with_reducible apply gif_var)
  all_goals refine hr.fin ?_ (by omega) (fun i hi => by simp (disch := omega) only [hset_ne])
  all_goals (congr 1; unfold cmpI; repeat' split)
  all_goals omega
theorem cmp64_ok {x y : Int} (hk : K (.int .i64 (cmpI x y)) n H) : ACall ⟨Try.prog, w0⟩ 55 [.int .i64 x, .int .i64 y] K n H := by
  refine ACall.res (fun K' hr => ?_) (by simp) hk
  refine ACall.run Try.func55 rfl Try.ntmps55 Try.results55 (by simp) fun J0 => ?_
  simp (disch := omega) [-hset_if, -Bool.decide_and, hset_ne]
  refine isNaN64_ok ?_
  simp (disch := omega) [-hset_if, -Bool.decide_and, hset_ne]
  refine isNaN64_ok ?_
  simp (disch := omega) [-hset_if, -Bool.decide_and, hset_ne]
  repeat' (first | (with_reducible intro _; first | (exfalso; omega) | (simp (disch := omega) [-hset_if, -Bool.decide_and, hset_ne]) | skip) | (with_reducible refine And.intro ?_ ?_; omega) | with_reducible apply cif_dec | with_reducible apply cif_beq | with_reducible apply cif_bne | with_reducible apply cif_var | with_reducible apply gif_dec | with_reducible apply gif_ndec | with_reducible apply gif_beq | with_reducible apply gif_bne | with_reducible apply gif_nbeq | with_reducible apply gif_var)
  all_goals refine hr.fin ?_ (by omega) (fun i hi => by simp (disch := omega) only [hset_ne])
  all_goals (congr 1; unfold cmpI; repeat' split)
  all_goals omega
def orI : List Int → Int
  | [] => 0
  | x :: r => if x ≠ 0 then x else orI r
theorem or_ok {v : Value} {D : Nat → Prop} {xs : List Int} (hs : SlR ⟨Try.prog, w0⟩ H D 1 intC v xs) (hD : ∀ i, D i → i < n) (hb : xs.length < 9223372036854775807) (hk : K (.int .i64 (orI xs)) n H) : ACall ⟨Try.prog, w0⟩ 53 [v] K n H := by
  refine ACall.res (fun K' hr => ?_) (by simp) hk
  refine ACall.run Try.func53 rfl Try.ntmps53 Try.results53 (by simp) fun J0 => ?_
  simp (disch := omega) [-hset_if, -Bool.decide_and, hset_ne, hs.lenK]
  refine AW.while (σ := Nat) (fun j => xs.length - j) (fun j => [(3, .int .i64 0), (6, v), (7, .int .i64 xs.length), (8, .int .i64 j)])
    (fun j n1 H1 => n1 = n ∧ H1 = H ∧ j ≤ xs.length ∧ Res n H K' (.int .i64 (orI (xs.drop j)))) 0 ?_ ?_ ?_
  · simp (disch := omega) [-hset_if, -Bool.decide_and, hset_ne]
  · exact ⟨rfl, rfl, by omega, hr⟩
  clear hr
  rintro j n1 H1 ⟨rfl, rfl, g1, hr⟩
  simp (disch := omega) [-hset_if, -Bool.decide_and, hset_ne]
  refine cif_dec (fun h => ?_) (fun h => ?_)
  · rw [drop_at (by omega), orI] at hr
    simp (disch := omega) [-hset_if, -Bool.decide_and, hset_ne, hs.ix elemS24, hs.load0 shp3]
    refine cif_bne (fun h1 => ?_) (fun h1 => ?_)
    · simp (disch := omega) [-hset_if, -Bool.decide_and, hset_ne]
      rw [if_neg (by omega)] at hr
      exact Next.mk (j + 1) (by first | omega | (dsimp only; omega)) (by simp (disch := omega) [-hset_if, -Bool.decide_and, hset_ne]) ⟨rfl, rfl, by omega, hr⟩
    · simp (disch := omega) [-hset_if, -Bool.decide_and, hset_ne]
      rw [if_pos h1] at hr
      exact hr.fin rfl (by omega) (fun i hi => by simp (disch := omega) only [hset_ne])
  · rw [List.drop_of_length_le (by omega), orI] at hr
    simp (disch := omega) [-hset_if, -Bool.decide_and, hset_ne]
    exact hr.fin rfl (by omega) (fun i hi => by simp (disch := omega) only [hset_ne])
end Go.Aw.S56
