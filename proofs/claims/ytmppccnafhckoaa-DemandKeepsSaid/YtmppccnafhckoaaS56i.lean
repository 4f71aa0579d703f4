/-
  Chapter 56: Shed, Proves, Order, Power.
-/
import Derived.Test.YtmppccnafhckoaaS56h
namespace Go.Aw.S56
open Go.RowKit Go.Proofs Go.Aw.Tab
set_option linter.unusedSimpArgs false
set_option linter.unusedVariables false
set_option maxRecDepth 10000
set_option maxHeartbeats 1000000
set_option pp.deepTerms false
set_option pp.deepTerms.threshold 4
set_option pp.maxSteps 1500
attribute [local simp] Load.cells Sta.cells intC Num.cells
variable {w0 : World} {n : Nat} {H : Heap} {K : Value → Nat → Heap → Prop} {pv sv ov : Value} {D E F : Nat → Prop} {l : List Load} {s : List Sta} {o : List Int} {base limit : Int}
theorem range_get {n i : Nat} (h : i < n) : (List.range n)[i]? = some i := List.getElem?_range h
attribute [local simp] range_get
/-- The answer of Shed: how many, what remains, the error. -/
def shV (l : List Load) (base limit : Int) : Int × Int × Int :=
  if chk l ≠ 0 then (0, 0, chk l) else if [base, limit].all inB = false then (0, 0, 6)
  else if (shP l base limit 0 (ordR l)).2 ≤ limit then ((shP l base limit 0 (ordR l)).1, (shP l base limit 0 (ordR l)).2, 0) else (0, 0, 9)
theorem Shed_ok (hb : l.length < 4611686018427387904) (hs : SlR ⟨Try.prog, w0⟩ H D 5 Load.cells pv l) (hD : ∀ i, D i → i < n)
    (hk : K (.tuple #[.int .i64 (shV l base limit).1, .int .i64 (shV l base limit).2.1, .int .i64 (shV l base limit).2.2]) n H) : ACall ⟨Try.prog, w0⟩ 18 [pv, .int .i64 base, .int .i64 limit] K n H := by
  refine ACall.res (fun K' hr => ?_) (und_tuple (by simp)) hk
  unfold shV at hr
  refine ACall.run Try.func18 rfl Try.ntmps18 Try.results18 (by simp) fun J0 => ?_
  simp (disch := omega) [-hset_if, -Bool.decide_and, hset_ne]
  refine check_ok hs hD hb ?_
  simp (disch := omega) [-hset_if, -Bool.decide_and, hset_ne]
  refine cif_bne (fun h0 => ?_) (fun h0 => ?_)
  rotate_left
  · rw [if_pos h0] at hr
    simp (disch := omega) [-hset_if, -Bool.decide_and, hset_ne]
    exact hr.fin rfl (by omega) (fun i hi => by simp (disch := omega) only [hset_ne])
  rw [if_neg (by simp [h0])] at hr
  simp (disch := omega) [-hset_if, -Bool.decide_and, hset_ne]
  refine analog_ok (xs := [base, limit]) (D := (· = n)) ?_ ?_ (by simp) ?_
  · exact (OwR.lit (n := n + 1) (T := 2) (j := n) (by omega) (by simp) (by omega) (by simp (disch := omega) [-hset_if, -Bool.decide_and, hset_ne]) rfl (by simp)).sl
  · intro i hi; subst hi; omega
  generalize hq : [base, limit].all inB = b at hr ⊢
  simp (disch := omega) [-hset_if, -Bool.decide_and, hset_ne]
  refine cif_var (fun h1 => ?_) (fun h1 => ?_)
  · simp (disch := omega) [-hset_if, -Bool.decide_and, hset_ne]
    rw [if_neg (by simp [h1])] at hr
    have h2 : -1000000000000 ≤ base ∧ base ≤ 1000000000000 := by
      rw [h1] at hq
      simp [inB] at hq
      omega
    refine shed_ok h0 (hs.frame (fun i hi => by have := hD i hi; rw [hset_ne (by omega)])) (fun i hi => by have := hD i hi; omega) h2 ?_
    generalize shP l base limit 0 (ordR l) = p at hr ⊢
    simp (disch := omega) [-hset_if, -Bool.decide_and, hset_ne]
    refine cif_dec (fun h3 => ?_) (fun h3 => ?_)
    · rw [if_pos h3] at hr
      simp (disch := omega) [-hset_if, -Bool.decide_and, hset_ne]
      exact hr.fin rfl (by omega) (fun i hi => by rw [hset_ne (by omega)])
    · rw [if_neg h3] at hr
      simp (disch := omega) [-hset_if, -Bool.decide_and, hset_ne]
      exact hr.fin rfl (by omega) (fun i hi => by rw [hset_ne (by omega)])
  · simp (disch := omega) [-hset_if, -Bool.decide_and, hset_ne]
    rw [if_pos (by simp [h1])] at hr
    exact hr.fin rfl (by omega) (fun i hi => by rw [hset_ne (by omega)])
/-- The reference's answer. -/
def shQ (p : Nat × Int) (limit : Int) : Value := if p.2 ≤ limit then .tuple #[.int .i64 (p.1 : Int), .int .i64 p.2] else .tuple #[.int .i64 (-1), .int .i64 0]
theorem shQ_und {p : Nat × Int} {m : Nat} : Und m (shQ p limit) := by unfold shQ; split <;> exact und_tuple (by simp)
theorem shedR_ok (hc : chk l = 0) (hs : SlR ⟨Try.prog, w0⟩ H D 5 Load.cells pv l) (hD : ∀ i, D i → i < n) (hb : -1000000000000 ≤ base ∧ base ≤ 1000000000000)
    (hk : K (shQ (shP l base limit 0 (ordR l)) limit) n H) : ACall ⟨Try.prog, w0⟩ 22 [pv, .int .i64 base, .int .i64 limit] K n H := by
  refine ACall.res (fun K' hr => ?_) shQ_und hk
  have hl := chk_len hc
  have hR := chk_rng hc
  have hb2 := sumO_b (o := ordR l) hR hl (fun k hk => ordR_mem.1 hk) (by rw [ordR_len]; exact hl)
  have hol : (ordR l).length = l.length := ordR_len
  refine ACall.run Try.func22 rfl Try.ntmps22 Try.results22 (by simp) fun J0 => ?_
  simp (disch := omega) [-hset_if, -Bool.decide_and, hset_ne]
  refine orderR_ok hl hs hD ?_
  intro v n1 H1 E1 f1 f2 f3 f4
  simp (disch := omega) [-hset_if, -Bool.decide_and, hset_ne]
  refine AW.while (σ := Nat) (fun j => (ordR l).length + 1 - j) (fun j => [(0, pv), (1, .int .i64 base), (2, .int .i64 limit), (8, v), (9, .int .i64 j)])
    (fun j n3 H3 => n3 = n1 ∧ H3 = H1 ∧ j ≤ (ordR l).length + 1 ∧ Res n H K' (if j ≤ (ordR l).length then shQ (shP l base limit j ((ordR l).drop j)) limit else .tuple #[.int .i64 (-1), .int .i64 0])) 0 ?_ ?_ ?_
  · simp (disch := omega) [-hset_if, -Bool.decide_and, hset_ne]
  · exact ⟨rfl, rfl, by omega, by rw [if_pos (by omega)]; exact hr⟩
  clear hr
  rintro k n3 H3 ⟨rfl, rfl, f5, hr⟩
  have hs1 : SlR ⟨Try.prog, w0⟩ H3 D 5 Load.cells pv l := hs.frame (fun i hi => f2 i (by have := hD i hi; omega))
  simp (disch := omega) [-hset_if, -Bool.decide_and, hset_ne, f4.sl.lenK]
  refine cif_dec (fun h => ?_) (fun h => ?_)
  · rw [if_pos (by omega)] at hr
    have hbk := hb2 k
    obtain ⟨hb3, hb4⟩ := hb
    simp (disch := omega) [-hset_if, -Bool.decide_and, hset_ne]
    refine rest_ok hs1 f4.sl hR hl (fun k hk => ordR_mem.1 hk) (by omega) (by omega) ?_
    simp (disch := omega) [-hset_if, -Bool.decide_and, hset_ne]
    refine cif_dec (fun h2 => ?_) (fun h2 => ?_)
    · simp (disch := omega) [-hset_if, -Bool.decide_and, hset_ne]
      rw [shP_hit h2] at hr
      exact hr.fin (by rw [shQ, if_pos h2]) (by omega) f2
    · simp (disch := omega) [-hset_if, -Bool.decide_and, hset_ne]
      refine Next.mk (k + 1) (by first | omega | (dsimp only; omega)) (by simp (disch := omega) [-hset_if, -Bool.decide_and, hset_ne]) ⟨rfl, rfl, by omega, ?_⟩
      by_cases hk2 : k + 1 ≤ (ordR l).length
      · rw [if_pos hk2]
        rw [drop_at (by omega), shP_miss (by rw [← drop_at (by omega)]; exact h2)] at hr
        exact hr
      · rw [if_neg hk2]
        rw [List.drop_of_length_le (by omega)] at hr h2
        rw [shP_end, shQ, if_neg (by simpa [sumO] using h2)] at hr
        exact hr
  · simp (disch := omega) [-hset_if, -Bool.decide_and, hset_ne]
    rw [if_neg (by omega)] at hr
    exact hr.fin rfl (by omega) f2
/-- Shedding m loads is least. -/
def prv (l : List Load) (base limit m : Int) : Bool := decide ((shV l base limit).2.2 = 0 ∧ (shV l base limit).1 = m)
theorem proves_ok {m : Int} (hb : l.length < 4611686018427387904) (hs : SlR ⟨Try.prog, w0⟩ H D 5 Load.cells pv l) (hD : ∀ i, D i → i < n) (hk : K (.bool (prv l base limit m)) n H) : ACall ⟨Try.prog, w0⟩ 20 [pv, .int .i64 base, .int .i64 limit, .int .i64 m] K n H := by
  refine ACall.res (fun K' hr => ?_) (by simp) hk
  unfold prv at hr
  refine ACall.run Try.func20 rfl Try.ntmps20 Try.results20 (by simp) fun J0 => ?_
  simp (disch := omega) [-hset_if, -Bool.decide_and, hset_ne]
  refine Shed_ok hb hs hD ?_
  generalize shV l base limit = p at hr ⊢
  simp (disch := omega) [-hset_if, -Bool.decide_and, hset_ne]
  refine gif_dec (fun h1 => ?_) (fun h1 => ?_)
  · simp (disch := omega) [-hset_if, -Bool.decide_and, hset_ne]
    exact hr.fin (by congr 1; rw [Bool.eq_iff_iff]; simp [h1]) (by omega) (fun i hi => by simp (disch := omega) only [hset_ne])
  · simp (disch := omega) [-hset_if, -Bool.decide_and, hset_ne]
    exact hr.fin (by simp [h1]) (by omega) (fun i hi => by simp (disch := omega) only [hset_ne])
theorem provesR_ok {m : Int} (hb : l.length < 4611686018427387904) (hs : SlR ⟨Try.prog, w0⟩ H D 5 Load.cells pv l) (hD : ∀ i, D i → i < n) (hk : K (.bool (prv l base limit m)) n H) : ACall ⟨Try.prog, w0⟩ 21 [pv, .int .i64 base, .int .i64 limit, .int .i64 m] K n H := by
  refine ACall.res (fun K' hr => ?_) (by simp) hk
  unfold prv at hr
  refine ACall.run Try.func21 rfl Try.ntmps21 Try.results21 (by simp) fun J0 => ?_
  simp (disch := omega) [-hset_if, -Bool.decide_and, hset_ne]
  refine checkR_ok hs hD hb ?_
  unfold shV at hr
  simp (disch := omega) [-hset_if, -Bool.decide_and, hset_ne]
  refine gif_bne (fun h0 => ?_) (fun h0 => ?_)
  rotate_left
  · rw [if_pos h0] at hr
    simp (disch := omega) [-hset_if, -Bool.decide_and, hset_ne]
    exact hr.fin (by simp [h0]) (by omega) (fun i hi => by simp (disch := omega) only [hset_ne])
  rw [if_neg (by simp [h0])] at hr
  simp (disch := omega) [-hset_if, -Bool.decide_and, hset_ne]
  refine insideR_ok ?_
  simp (disch := omega) [-hset_if, -Bool.decide_and, hset_ne]
  refine gif_var (fun h1 => ?_) (fun h1 => ?_)
  · have h1 : inB base = false := by simpa using h1
    rw [if_pos (by simp [h1])] at hr
    simp (disch := omega) [-hset_if, -Bool.decide_and, hset_ne]
    exact hr.fin (by simp) (by omega) (fun i hi => by simp (disch := omega) only [hset_ne])
  have h1 : inB base = true := by simpa using h1
  simp (disch := omega) [-hset_if, -Bool.decide_and, hset_ne]
  refine insideR_ok ?_
  simp (disch := omega) [-hset_if, -Bool.decide_and, hset_ne]
  refine cif_var (fun h2 => ?_) (fun h2 => ?_)
  rotate_left
  · have h2 : inB limit = false := by simpa using h2
    rw [if_pos (by simp [h2])] at hr
    simp (disch := omega) [-hset_if, -Bool.decide_and, hset_ne]
    exact hr.fin (by simp) (by omega) (fun i hi => by simp (disch := omega) only [hset_ne])
  have h2 : inB limit = true := by simpa using h2
  rw [if_neg (by simp [h1, h2])] at hr
  have h3 : -1000000000000 ≤ base ∧ base ≤ 1000000000000 := by
    simp [inB] at h1
    omega
  simp (disch := omega) [-hset_if, -Bool.decide_and, hset_ne]
  refine shedR_ok h0 hs hD h3 ?_
  generalize shP l base limit 0 (ordR l) = p at hr ⊢
  unfold shQ
  by_cases h4 : p.2 ≤ limit
  · rw [if_pos h4] at hr ⊢
    simp (disch := omega) [-hset_if, -Bool.decide_and, hset_ne]
    exact hr.fin (by congr 1; rw [Bool.eq_iff_iff]; simp) (by omega) (fun i hi => by simp (disch := omega) only [hset_ne])
  · rw [if_neg h4] at hr ⊢
    simp (disch := omega) [-hset_if, -Bool.decide_and, hset_ne]
    exact hr.fin (by simp) (by omega) (fun i hi => by simp (disch := omega) only [hset_ne])
theorem Order_ok (hb : l.length < 4611686018427387904) (hs : SlR ⟨Try.prog, w0⟩ H D 5 Load.cells pv l) (hD : ∀ i, D i → i < n)
    (h1 : chk l ≠ 0 → K (.tuple #[.slice none 0 0, .int .i64 (chk l)]) n H)
    (hk : chk l = 0 → ∀ v n' H' E, n ≤ n' → (∀ i, i < n → H' i = H i) → (∀ i, E i → n ≤ i ∧ i < n') → OwR ⟨Try.prog, w0⟩ H' n' E 3 1 intC v (ordR l) → K (.tuple #[v, .int .i64 0]) n' H') : ACall ⟨Try.prog, w0⟩ 11 [pv] K n H := by
  refine ACall.run Try.func11 rfl Try.ntmps11 Try.results11 (by simp) fun J0 => ?_
  simp (disch := omega) [-hset_if, -Bool.decide_and, hset_ne]
  refine check_ok hs hD hb ?_
  simp (disch := omega) [-hset_if, -Bool.decide_and, hset_ne]
  refine cif_bne (fun h0 => ?_) (fun h0 => ?_)
  · simp (disch := omega) [-hset_if, -Bool.decide_and, hset_ne]
    refine order_ok h0 hs hD ?_
    intro v n1 H1 E1 f1 f2 f3 f4
    simp (disch := omega) [-hset_if, -Bool.decide_and, hset_ne]
    refine Fin_id ?_
    exact hk h0 v n1 H1 E1 f1 f2 f3 f4
  · simp (disch := omega) [-hset_if, -Bool.decide_and, hset_ne]
    refine Fin_id ?_
    exact h1 h0
/-- The answer of Power. -/
def pwV (l : List Load) (s : List Sta) : Int × Int := if chk l ≠ 0 then (0, chk l) else if s.length ≠ l.length then (0, 1) else (pwS l s, 0)
theorem Power_ok (hb : l.length < 4611686018427387904) (hs : SlR ⟨Try.prog, w0⟩ H D 5 Load.cells pv l) (hD : ∀ i, D i → i < n) (ht : SlR ⟨Try.prog, w0⟩ H E 2 Sta.cells sv s) (hE : ∀ i, E i → i < n)
    (hk : K (.tuple #[.int .i64 (pwV l s).1, .int .i64 (pwV l s).2]) n H) : ACall ⟨Try.prog, w0⟩ 25 [pv, sv] K n H := by
  refine ACall.res (fun K' hr => ?_) (und_tuple (by simp)) hk
  unfold pwV at hr
  refine ACall.run Try.func25 rfl Try.ntmps25 Try.results25 (by simp) fun J0 => ?_
  simp (disch := omega) [-hset_if, -Bool.decide_and, hset_ne]
  refine check_ok hs hD hb ?_
  simp (disch := omega) [-hset_if, -Bool.decide_and, hset_ne]
  refine cif_bne (fun h0 => ?_) (fun h0 => ?_)
  rotate_left
  · rw [if_pos h0] at hr
    simp (disch := omega) [-hset_if, -Bool.decide_and, hset_ne]
    exact hr.fin rfl (by omega) (fun i hi => by simp (disch := omega) only [hset_ne])
  rw [if_neg (by simp [h0])] at hr
  simp (disch := omega) [-hset_if, -Bool.decide_and, hset_ne, hs.lenK, ht.lenK]
  refine cif_bne (fun h1 => ?_) (fun h1 => ?_)
  · rw [if_neg (by simp; omega)] at hr
    simp (disch := omega) [-hset_if, -Bool.decide_and, hset_ne]
    refine power_ok hs hD ht hE (chk_rng h0) (chk_len h0) (by omega) ?_
    simp (disch := omega) [-hset_if, -Bool.decide_and, hset_ne]
    exact hr.fin rfl (by omega) (fun i hi => by simp (disch := omega) only [hset_ne])
  · rw [if_pos (by omega)] at hr
    simp (disch := omega) [-hset_if, -Bool.decide_and, hset_ne]
    exact hr.fin rfl (by omega) (fun i hi => by simp (disch := omega) only [hset_ne])
end Go.Aw.S56
