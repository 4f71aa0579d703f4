/-
  Chapter 56: what is ready; the level; equal states; copies; the specification's order.
-/
import Derived.Test.YtmppccnafhckoaaS56d
namespace Go.Aw.S56
open Go.RowKit Go.Proofs Go.Aw.Tab
set_option linter.unusedSimpArgs false
set_option linter.unusedVariables false
set_option maxRecDepth 10000
set_option maxHeartbeats 1000000
set_option pp.deepTerms false
set_option pp.deepTerms.threshold 4
set_option pp.maxSteps 1500
attribute [local simp] Load.cells Sta.cells intC
variable {w0 : World} {n : Nat} {H : Heap} {K : Value → Nat → Heap → Prop} {pv sv ov : Value} {D E F : Nat → Prop} {l : List Load} {s : List Sta} {o : List Int}
def Num.cells (x : Int) : List Value := [.int .i64 x]
attribute [local simp] Num.cells
abbrev Num := Int
/-- slices.IndexFunc and ContainsFunc over Num. -/
theorem indexNum_ok {v : Value} {D : Nat → Prop} {xs : List Num} {g : FuncId} {caps : Array Value} {p : Num → Bool} (hs : SlR ⟨Try.prog, w0⟩ H D 1 Num.cells v xs) (hD : ∀ i, D i → i < n)
    (hg : ∀ r ∈ xs, ∀ n' H' (K' : Value → Nat → Heap → Prop), n ≤ n' → (∀ i, i < n → H' i = H i) → (∀ n'' H'', n' ≤ n'' → (∀ i, i < n' → H'' i = H' i) → K' (.bool (p r)) n'' H'') → ACall ⟨Try.prog, w0⟩ g ((.int .i64 r) :: caps.toList) K' n' H')
    (hb : xs.length < 9223372036854775807) (hent : entB Try.prog g = true) (hk : ∀ n' H', n ≤ n' → (∀ i, i < n → H' i = H i) → K (.int .i64 (fidx p xs)) n' H') : ACall ⟨Try.prog, w0⟩ 73 [v, .func (.func g) #[] caps] K n H := by
  refine ACall.run Try.func73 rfl Try.ntmps73 Try.results73 (by simp) fun J0 => ?_
  simp (disch := omega) [-hset_if, -Bool.decide_and, hset_ne, hs.lenK]
  refine AW.while (σ := Nat) (fun j => xs.length - j) (fun j => [(0, v), (1, .func (.func g) #[] caps), (7, .int .i64 xs.length), (8, .int .i64 j)]) (fun j n1 H1 => j ≤ xs.length ∧ n ≤ n1 ∧ (∀ i, i < n → H1 i = H i) ∧ ∀ q, q < j → p (at_ xs (q : Int)) = false) 0 ?_ ?_ ?_
  · simp (disch := omega) [-hset_if, -Bool.decide_and, hset_ne]
  · exact ⟨by omega, Nat.le_refl _, fun _ _ => rfl, fun q hq => by omega⟩
  rintro j n1 H1 ⟨g1, g2, g3, g4⟩
  have hs1 : SlR ⟨Try.prog, w0⟩ H1 D 1 Num.cells v xs := hs.frame (fun i hi => g3 i (hD i hi))
  simp (disch := omega) [-hset_if, -Bool.decide_and, hset_ne]
  refine cif_dec (fun h => ?_) (fun h => ?_)
  · have hx : at_ xs (j : Int) ∈ xs := by rw [at_nat h]; exact List.getElem_mem _
    simp (disch := omega) [-hset_if, -Bool.decide_and, hset_ne, hs1.ix elemS45, hs1.load0 shp2, hent]
    have hc := hg _ hx n1 H1
    refine hc _ g2 g3 ?_
    intro n2 H2 e1 e2
    simp (disch := omega) [-hset_if, -Bool.decide_and, hset_ne]
    refine cif_var (fun hp => ?_) (fun hp => ?_)
    · simp (disch := omega) [-hset_if, -Bool.decide_and, hset_ne]
      refine Fin_id ?_
      rw [fidx_found h hp g4] at hk
      exact hk _ _ (by omega) (fun i hi => by rw [e2 i (by omega), g3 i hi])
    · simp (disch := omega) [-hset_if, -Bool.decide_and, hset_ne]
      refine Next.mk (j + 1) (by first | omega | (simp only; omega)) (by simp (disch := omega) [-hset_if, -Bool.decide_and, hset_ne]) ⟨by omega, by omega, fun i hi => by rw [e2 i (by omega), g3 i hi], fun q hq => ?_⟩
      by_cases e : q < j
      · exact g4 q e
      · obtain rfl : q = j := by omega
        exact hp
  · simp (disch := omega) [-hset_if, -Bool.decide_and, hset_ne]
    refine Fin_id ?_
    rw [fidx_none (fun q hq => g4 q (by omega))] at hk
    exact hk _ _ g2 g3
theorem containsNum_ok {v : Value} {D : Nat → Prop} {xs : List Num} {g : FuncId} {caps : Array Value} {p : Num → Bool} (hs : SlR ⟨Try.prog, w0⟩ H D 1 Num.cells v xs) (hD : ∀ i, D i → i < n)
    (hg : ∀ r ∈ xs, ∀ n' H' (K' : Value → Nat → Heap → Prop), n ≤ n' → (∀ i, i < n → H' i = H i) → (∀ n'' H'', n' ≤ n'' → (∀ i, i < n' → H'' i = H' i) → K' (.bool (p r)) n'' H'') → ACall ⟨Try.prog, w0⟩ g ((.int .i64 r) :: caps.toList) K' n' H')
    (hb : xs.length < 9223372036854775807) (hent : entB Try.prog g = true) (hk : ∀ n' H', n ≤ n' → (∀ i, i < n → H' i = H i) → K (.bool (xs.any p)) n' H') : ACall ⟨Try.prog, w0⟩ 63 [v, .func (.func g) #[] caps] K n H := by
  refine ACall.run Try.func63 rfl Try.ntmps63 Try.results63 (by simp) fun J0 => ?_
  simp (disch := omega) [-hset_if, -Bool.decide_and, hset_ne]
  refine indexNum_ok hs hD hg hb hent ?_
  intro n1 H1 e1 e2
  simp (disch := omega) [-hset_if, -Bool.decide_and, hset_ne]
  refine Fin_id ?_
  rw [fidx_any]
  exact hk _ _ e1 e2
theorem clNum_ok (r : Int) (hk : K (.bool (!inB r)) n H) : ACall ⟨Try.prog, w0⟩ 64 [.int .i64 r] K n H := by
  refine ACall.res (fun K' h => ?_) (by simp) hk
  refine ACall.run Try.func64 rfl Try.ntmps64 Try.results64 (by simp) fun J0 => ?_
  simp (disch := omega) [-hset_if, -Bool.decide_and, hset_ne]
  refine btw64_ok ?_
  simp (disch := omega) [-hset_if, -Bool.decide_and, hset_ne]
  exact h.fin rfl (by omega) (fun i hi => by simp (disch := omega) only [hset_ne])
theorem analog_ok {v : Value} {xs : List Int} (hx : SlR ⟨Try.prog, w0⟩ H D 1 Num.cells v xs) (hD : ∀ i, D i → i < n) (hb : xs.length < 4611686018427387904) (hk : K (.bool (xs.all inB)) n H) : ACall ⟨Try.prog, w0⟩ 44 [v] K n H := by
  refine ACall.res (fun K' h => ?_) (by simp) hk
  refine ACall.run Try.func44 rfl Try.ntmps44 Try.results44 (by simp) fun J0 => ?_
  simp (disch := omega) [-hset_if, -Bool.decide_and, hset_ne]
  refine containsNum_ok (p := fun x => !inB x) hx hD (fun r _ n' H' K2 _ _ h3 => clNum_ok r (h3 n' H' (Nat.le_refl _) (fun _ _ => rfl))) (by omega) (by kernel_rfl) ?_
  intro n1 H1 e1 e2
  simp (disch := omega) [-hset_if, -Bool.decide_and, hset_ne]
  refine h.fin ?_ (by omega) e2
  rw [not_all]
/-- slices.IndexFunc and ContainsFunc over Sta. -/
theorem indexSta_ok {v : Value} {D : Nat → Prop} {xs : List Sta} {g : FuncId} {caps : Array Value} {p : Sta → Bool} (hs : SlR ⟨Try.prog, w0⟩ H D 2 Sta.cells v xs) (hD : ∀ i, D i → i < n)
    (hg : ∀ r ∈ xs, ∀ n' H' (K' : Value → Nat → Heap → Prop), n ≤ n' → (∀ i, i < n → H' i = H i) → (∀ n'' H'', n' ≤ n'' → (∀ i, i < n' → H'' i = H' i) → K' (.bool (p r)) n'' H'') → ACall ⟨Try.prog, w0⟩ g ((.agg r.cells.toArray) :: caps.toList) K' n' H')
    (hb : xs.length < 9223372036854775807) (hent : entB Try.prog g = true) (hk : ∀ n' H', n ≤ n' → (∀ i, i < n → H' i = H i) → K (.int .i64 (fidx p xs)) n' H') : ACall ⟨Try.prog, w0⟩ 74 [v, .func (.func g) #[] caps] K n H := by
  refine ACall.run Try.func74 rfl Try.ntmps74 Try.results74 (by simp) fun J0 => ?_
  simp (disch := omega) [-hset_if, -Bool.decide_and, hset_ne, hs.lenK]
  refine AW.while (σ := Nat) (fun j => xs.length - j) (fun j => [(0, v), (1, .func (.func g) #[] caps), (7, .int .i64 xs.length), (8, .int .i64 j)]) (fun j n1 H1 => j ≤ xs.length ∧ n ≤ n1 ∧ (∀ i, i < n → H1 i = H i) ∧ ∀ q, q < j → p (at_ xs (q : Int)) = false) 0 ?_ ?_ ?_
  · simp (disch := omega) [-hset_if, -Bool.decide_and, hset_ne]
  · exact ⟨by omega, Nat.le_refl _, fun _ _ => rfl, fun q hq => by omega⟩
  rintro j n1 H1 ⟨g1, g2, g3, g4⟩
  have hs1 : SlR ⟨Try.prog, w0⟩ H1 D 2 Sta.cells v xs := hs.frame (fun i hi => g3 i (hD i hi))
  simp (disch := omega) [-hset_if, -Bool.decide_and, hset_ne]
  refine cif_dec (fun h => ?_) (fun h => ?_)
  · have hx : at_ xs (j : Int) ∈ xs := by rw [at_nat h]; exact List.getElem_mem _
    simp (disch := omega) [-hset_if, -Bool.decide_and, hset_ne, hs1.ix elemS46, hs1.load0 shp54, hent]
    have hc := hg _ hx n1 H1
    refine hc _ g2 g3 ?_
    intro n2 H2 e1 e2
    simp (disch := omega) [-hset_if, -Bool.decide_and, hset_ne]
    refine cif_var (fun hp => ?_) (fun hp => ?_)
    · simp (disch := omega) [-hset_if, -Bool.decide_and, hset_ne]
      refine Fin_id ?_
      rw [fidx_found h hp g4] at hk
      exact hk _ _ (by omega) (fun i hi => by rw [e2 i (by omega), g3 i hi])
    · simp (disch := omega) [-hset_if, -Bool.decide_and, hset_ne]
      refine Next.mk (j + 1) (by first | omega | (simp only; omega)) (by simp (disch := omega) [-hset_if, -Bool.decide_and, hset_ne]) ⟨by omega, by omega, fun i hi => by rw [e2 i (by omega), g3 i hi], fun q hq => ?_⟩
      by_cases e : q < j
      · exact g4 q e
      · obtain rfl : q = j := by omega
        exact hp
  · simp (disch := omega) [-hset_if, -Bool.decide_and, hset_ne]
    refine Fin_id ?_
    rw [fidx_none (fun q hq => g4 q (by omega))] at hk
    exact hk _ _ g2 g3
theorem containsSta_ok {v : Value} {D : Nat → Prop} {xs : List Sta} {g : FuncId} {caps : Array Value} {p : Sta → Bool} (hs : SlR ⟨Try.prog, w0⟩ H D 2 Sta.cells v xs) (hD : ∀ i, D i → i < n)
    (hg : ∀ r ∈ xs, ∀ n' H' (K' : Value → Nat → Heap → Prop), n ≤ n' → (∀ i, i < n → H' i = H i) → (∀ n'' H'', n' ≤ n'' → (∀ i, i < n' → H'' i = H' i) → K' (.bool (p r)) n'' H'') → ACall ⟨Try.prog, w0⟩ g ((.agg r.cells.toArray) :: caps.toList) K' n' H')
    (hb : xs.length < 9223372036854775807) (hent : entB Try.prog g = true) (hk : ∀ n' H', n ≤ n' → (∀ i, i < n → H' i = H i) → K (.bool (xs.any p)) n' H') : ACall ⟨Try.prog, w0⟩ 65 [v, .func (.func g) #[] caps] K n H := by
  refine ACall.run Try.func65 rfl Try.ntmps65 Try.results65 (by simp) fun J0 => ?_
  simp (disch := omega) [-hset_if, -Bool.decide_and, hset_ne]
  refine indexSta_ok hs hD hg hb hent ?_
  intro n1 H1 e1 e2
  simp (disch := omega) [-hset_if, -Bool.decide_and, hset_ne]
  refine Fin_id ?_
  rw [fidx_any]
  exact hk _ _ e1 e2
theorem clSince_ok (r : Sta) (hk : K (.bool (!decide (0 ≤ r.since ∧ r.since ≤ 6311433599))) n H) : ACall ⟨Try.prog, w0⟩ 66 [.agg r.cells.toArray] K n H := by
  refine ACall.res (fun K' h => ?_) (by simp) hk
  refine ACall.run Try.func66 rfl Try.ntmps66 Try.results66 (by simp) fun J0 => ?_
  simp (disch := omega) [-hset_if, -Bool.decide_and, hset_ne]
  refine btw_ok ?_
  simp (disch := omega) [-hset_if, -Bool.decide_and, hset_ne]
  exact h.fin rfl (by omega) (fun i hi => by simp (disch := omega) only [hset_ne])
theorem clLate_ok (r : Sta) {now : Int} {m : Nat} (hm : m < n) (hH : H m = .cells [.int .i64 now] 3 1) (hk : K (.bool (!decide (r.since ≤ now))) n H) : ACall ⟨Try.prog, w0⟩ 67 [.agg r.cells.toArray, .pointer (some ⟨new m, 0, none⟩)] K n H := by
  refine ACall.res (fun K' h => ?_) (by simp) hk
  refine ACall.run Try.func67 rfl Try.ntmps67 Try.results67 (by simp) fun J0 => ?_
  simp (disch := omega) [-hset_if, -Bool.decide_and, hset_ne, hH]
  refine h.fin ?_ (by omega) (fun i hi => by simp (disch := omega) only [hset_ne])
  congr 1
  rw [Bool.eq_iff_iff]
  simp
/-- The error of a scan. -/
def chS (l : List Load) (s : List Sta) (now : Int) (xs : List Int) : Int := if chk l ≠ 0 then chk l else if xs.all inB = false then 6 else rdy l s now
theorem not_all2 {α : Type} (l : List α) (p : α → Bool) : (l.any fun x => !p x) = !l.all p := by
  rw [← not_all, Bool.not_not]
theorem checkS_ok {v : Value} {xs : List Int} {now : Int} (hs : SlR ⟨Try.prog, w0⟩ H D 5 Load.cells pv l) (hD : ∀ i, D i → i < n) (ht : SlR ⟨Try.prog, w0⟩ H E 2 Sta.cells sv s) (hE : ∀ i, E i → i < n) (hx : SlR ⟨Try.prog, w0⟩ H F 1 Num.cells v xs) (hF : ∀ i, F i → i < n)
    (hb : l.length < 4611686018427387904) (hb2 : s.length < 4611686018427387904) (hb3 : xs.length < 4611686018427387904) (hk : K (.int .i64 (chS l s now xs)) n H) : ACall ⟨Try.prog, w0⟩ 47 [pv, sv, .int .i64 now, v] K n H := by
  refine ACall.res (fun K' hr => ?_) (by simp) hk
  unfold chS at hr
  refine ACall.run Try.func47 rfl Try.ntmps47 Try.results47 (by simp) fun J0 => ?_
  simp (disch := omega) [-hset_if, -Bool.decide_and, hset_ne]
  have fr : ∀ {α : Type} {P : Nat → Prop} {sz : Nat} {f : α → List Value} {u : Value} {ys : List α}, SlR ⟨Try.prog, w0⟩ H P sz f u ys → (∀ i, P i → i < n) → SlR ⟨Try.prog, w0⟩ (hset n (.cells [.int .i64 now] 3 1) H) P sz f u ys := fun h hp => h.frame (fun i hi => by have := hp i hi; rw [hset_ne (by omega)])
  have hs1 := fr hs hD
  have ht1 := fr ht hE
  have hx1 := fr hx hF
  refine check_ok hs1 (fun i hi => by have := hD i hi; omega) hb ?_
  simp (disch := omega) [-hset_if, -Bool.decide_and, hset_ne]
  refine cif_bne (fun h1 => ?_) (fun h1 => ?_)
  rotate_left
  · rw [if_pos h1] at hr
    simp (disch := omega) [-hset_if, -Bool.decide_and, hset_ne]
    exact hr.fin rfl (by omega) (fun i hi => by simp (disch := omega) only [hset_ne])
  rw [if_neg (by simp [h1])] at hr
  simp (disch := omega) [-hset_if, -Bool.decide_and, hset_ne]
  refine analog_ok hx1 (fun i hi => by have := hF i hi; omega) hb3 ?_
  simp (disch := omega) [-hset_if, -Bool.decide_and, hset_ne]
  refine cif_var (fun h2 => ?_) (fun h2 => ?_)
  rotate_left
  · rw [if_pos h2] at hr
    simp (disch := omega) [-hset_if, -Bool.decide_and, hset_ne]
    exact hr.fin rfl (by omega) (fun i hi => by simp (disch := omega) only [hset_ne])
  rw [if_neg (by simp [h2])] at hr
  unfold rdy at hr
  simp (disch := omega) [-hset_if, -Bool.decide_and, hset_ne, ht1.lenK, hs1.lenK]
  have hno : s.length ≠ l.length ∨ ¬ (0 ≤ now ∧ now ≤ 6311433599) → Res n H K' (.int .i64 1) := fun h => by rwa [if_pos (by rcases h with h | h; exact .inl h; exact .inr (.inl h))] at hr
  refine cif_bne (fun h3 => ?_) (fun h3 => ?_)
  rotate_left
  · simp (disch := omega) [-hset_if, -Bool.decide_and, hset_ne]
    exact (hno (.inl (by omega))).fin rfl (by omega) (fun i hi => by simp (disch := omega) only [hset_ne])
  simp (disch := omega) [-hset_if, -Bool.decide_and, hset_ne]
  refine btw_ok ?_
  simp (disch := omega) [-hset_if, -Bool.decide_and, hset_ne]
  refine gif_ndec (fun h4 => ?_) (fun h4 => ?_)
  · simp (disch := omega) [-hset_if, -Bool.decide_and, hset_ne]
    exact (hno (.inr h4)).fin rfl (by omega) (fun i hi => by simp (disch := omega) only [hset_ne])
  simp (disch := omega) [-hset_if, -Bool.decide_and, hset_ne]
  refine containsSta_ok (p := fun x => !decide (0 ≤ x.since ∧ x.since ≤ 6311433599)) ht1 (fun i hi => by have := hE i hi; omega) (fun r _ n' H' K2 _ _ h3 => clSince_ok r (h3 n' H' (Nat.le_refl _) (fun _ _ => rfl))) (by omega) (by kernel_rfl) ?_
  intro n1 H1 e1 e2
  rw [not_all2]
  have e3 := e2 n (by omega)
  simp (disch := omega) [-hset_if, -Bool.decide_and, hset_ne] at e3
  simp (disch := omega) [-hset_if, -Bool.decide_and, hset_ne]
  refine cif_var (fun h5 => ?_) (fun h5 => ?_)
  rotate_left
  · rw [if_pos (.inr (.inr h5))] at hr
    simp (disch := omega) [-hset_if, -Bool.decide_and, hset_ne]
    exact hr.fin rfl (by omega) (fun i hi => by rw [e2 i (by omega), hset_ne (by omega)])
  rw [if_neg (by rintro (h | h | h); exact h (by omega); exact h (by omega); rw [h5] at h; cases h)] at hr
  have hent : entB Try.prog 67 = true := by kernel_rfl
  simp (disch := omega) [-hset_if, -Bool.decide_and, hset_ne]
  refine containsSta_ok (p := fun x => !decide (x.since ≤ now)) (ht1.frame (fun i hi => e2 i (by have := hE i hi; omega))) (fun i hi => by have := hE i hi; omega)
    (fun r _ n' H' K2 f1 f2 h3 => clLate_ok r (m := n) (by omega) (by rw [f2 n (by omega), e3]) (h3 n' H' (Nat.le_refl _) (fun _ _ => rfl))) (by omega) hent ?_
  intro n2 H2 f1 f2
  rw [not_all2]
  simp (disch := omega) [-hset_if, -Bool.decide_and, hset_ne]
  have hfr : ∀ i, i < n → H2 i = H i := fun i hi => by rw [f2 i (by omega), e2 i (by omega), hset_ne (by omega)]
  refine cif_var (fun h6 => ?_) (fun h6 => ?_)
  · rw [if_neg (by simp [h6])] at hr
    simp (disch := omega) [-hset_if, -Bool.decide_and, hset_ne]
    exact hr.fin rfl (by omega) hfr
  · rw [if_pos h6] at hr
    simp (disch := omega) [-hset_if, -Bool.decide_and, hset_ne]
    exact hr.fin rfl (by omega) hfr
def rdS (now : Int) (s : List Sta) : Int := if s.all (fun x => decide (x.since ≤ now)) = false then 8 else 0
def rdT (now : Int) (s t : List Sta) : Int := if t.all (fun x => decide (0 ≤ x.since ∧ x.since ≤ 6311433599)) = false then 1 else rdS now s
theorem ready_ok {now : Int} (hs : SlR ⟨Try.prog, w0⟩ H D 5 Load.cells pv l) (ht : SlR ⟨Try.prog, w0⟩ H E 2 Sta.cells sv s) (hb : l.length < 4611686018427387904) (hb2 : s.length < 4611686018427387904) (hk : K (.int .i64 (rdy l s now)) n H) : ACall ⟨Try.prog, w0⟩ 29 [pv, sv, .int .i64 now] K n H := by
  refine ACall.res (fun K' hr => ?_) (by simp) hk
  have hno : s.length ≠ l.length ∨ ¬ (0 ≤ now ∧ now ≤ 6311433599) → Res n H K' (.int .i64 1) := fun h => by
    have e : rdy l s now = 1 := if_pos (by rcases h with h | h; exact .inl h; exact .inr (.inl h))
    rwa [e] at hr
  refine ACall.run Try.func29 rfl Try.ntmps29 Try.results29 (by simp) fun J0 => ?_
  simp (disch := omega) [-hset_if, -Bool.decide_and, hset_ne, ht.lenK, hs.lenK]
  repeat' (first | (with_reducible intro _; first | (exfalso; omega) | (simp (disch := omega) [-hset_if, -Bool.decide_and, hset_ne, ht.lenK, hs.lenK]) | skip) | (with_reducible refine And.intro ?_ ?_; omega) | with_reducible apply cif_dec | with_reducible apply cif_beq | with_reducible apply cif_bne | with_reducible apply cif_var | with_reducible apply gif_dec | with_reducible apply gif_ndec | with_reducible apply gif_beq | with_reducible apply gif_bne | with_reducible apply gif_nbeq | with_reducible apply gif_var)
  all_goals try exact (hno (by omega)).fin rfl (by omega) (fun i hi => by simp (disch := omega) only [hset_ne])
  have hr : Res n H K' (.int .i64 (rdT now s s)) := by
    have e : rdy l s now = rdT now s s := by
      unfold rdy rdT rdS
      by_cases h5 : s.all (fun x => decide (0 ≤ x.since ∧ x.since ≤ 6311433599)) = false
      · rw [if_pos (.inr (.inr h5)), if_pos h5]
      · rw [if_neg (by rintro (h | h | h); exact h (by omega); exact h (by omega); exact h5 h), if_neg h5]
    rwa [e] at hr
  refine AW.while (σ := Nat) (fun j => s.length - j) (fun j => [(1, sv), (2, .int .i64 now), (7, .int .i64 j)])
    (fun j n1 H1 => n1 = n ∧ H1 = H ∧ j ≤ s.length ∧ Res n H K' (.int .i64 (rdT now s (s.drop j)))) 0 ?_ ?_ ?_
  · simp (disch := omega) [-hset_if, -Bool.decide_and, hset_ne]
  · exact ⟨rfl, rfl, by omega, hr⟩
  clear hr hno
  rintro j n1 H1 ⟨rfl, rfl, g1, hr⟩
  simp (disch := omega) [-hset_if, -Bool.decide_and, hset_ne, ht.lenK]
  refine cif_dec (fun h => ?_) (fun h => ?_)
  · rw [drop_at (by omega)] at hr
    simp (disch := omega) [-hset_if, -Bool.decide_and, hset_ne, ht.ix elemS44, ht.load shp3, ht.load0 shp3]
    repeat' (first | (with_reducible intro _; first | (exfalso; omega) | (simp (disch := omega) [-hset_if, -Bool.decide_and, hset_ne, ht.ix elemS44, ht.load shp3, ht.load0 shp3]) | skip) | (with_reducible refine And.intro ?_ ?_; omega) | with_reducible apply cif_dec | with_reducible apply cif_beq | with_reducible apply cif_bne | with_reducible apply cif_var | with_reducible apply gif_dec | with_reducible apply gif_ndec | with_reducible apply gif_beq | with_reducible apply gif_bne | with_reducible apply gif_nbeq | with_reducible apply gif_var)
    all_goals first
      | (refine hr.fin ?_ (by omega) (fun i hi => by simp (disch := omega) only [hset_ne]); congr 1; unfold rdT; rw [List.all_cons, show decide (0 ≤ (at_ s (j : Int)).since ∧ (at_ s (j : Int)).since ≤ 6311433599) = false from decide_eq_false (by omega)]; rfl)
      | (refine Next.mk (j + 1) (by first | omega | (dsimp only; omega)) (by simp (disch := omega) [-hset_if, -Bool.decide_and, hset_ne]) ⟨rfl, rfl, by omega, ?_⟩; unfold rdT at hr ⊢; rw [List.all_cons, show decide (0 ≤ (at_ s (j : Int)).since ∧ (at_ s (j : Int)).since ≤ 6311433599) = true from decide_eq_true (by omega), Bool.true_and] at hr; exact hr)
  rw [List.drop_of_length_le (by omega)] at hr
  simp (disch := omega) [-hset_if, -Bool.decide_and, hset_ne]
  refine AW.while (σ := Nat) (fun j => s.length - j) (fun j => [(1, sv), (2, .int .i64 now), (8, .int .i64 j)])
    (fun j n2 H2 => n2 = n1 ∧ H2 = H1 ∧ j ≤ s.length ∧ Res n1 H1 K' (.int .i64 (rdS now (s.drop j)))) 0 ?_ ?_ ?_
  · simp (disch := omega) [-hset_if, -Bool.decide_and, hset_ne]
  · exact ⟨rfl, rfl, by omega, by simpa [rdT] using hr⟩
  clear hr h g1
  rintro j n2 H2 ⟨rfl, rfl, g1, hr⟩
  simp (disch := omega) [-hset_if, -Bool.decide_and, hset_ne, ht.lenK]
  refine cif_dec (fun h => ?_) (fun h => ?_)
  · rw [drop_at (by omega)] at hr
    simp (disch := omega) [-hset_if, -Bool.decide_and, hset_ne, ht.ix elemS44, ht.load shp3, ht.load0 shp3]
    repeat' (first | (with_reducible intro _; first | (exfalso; omega) | (simp (disch := omega) [-hset_if, -Bool.decide_and, hset_ne, ht.ix elemS44, ht.load shp3, ht.load0 shp3]) | skip) | (with_reducible refine And.intro ?_ ?_; omega) | with_reducible apply cif_dec | with_reducible apply cif_beq | with_reducible apply cif_bne | with_reducible apply cif_var | with_reducible apply gif_dec | with_reducible apply gif_ndec | with_reducible apply gif_beq | with_reducible apply gif_bne | with_reducible apply gif_nbeq | with_reducible apply gif_var)
    all_goals first
      | (refine hr.fin ?_ (by omega) (fun i hi => by simp (disch := omega) only [hset_ne]); congr 1; unfold rdS; rw [List.all_cons, show decide ((at_ s (j : Int)).since ≤ now) = false from decide_eq_false (by omega)]; rfl)
      | (refine Next.mk (j + 1) (by first | omega | (dsimp only; omega)) (by simp (disch := omega) [-hset_if, -Bool.decide_and, hset_ne]) ⟨rfl, rfl, by omega, ?_⟩; unfold rdS at hr ⊢; rw [List.all_cons, show decide ((at_ s (j : Int)).since ≤ now) = true from decide_eq_true (by omega), Bool.true_and] at hr; exact hr)
  rw [List.drop_of_length_le (by omega)] at hr
  simp (disch := omega) [-hset_if, -Bool.decide_and, hset_ne]
  exact hr.fin (by simp [rdS]) (by omega) (fun i hi => by simp (disch := omega) only [hset_ne])
theorem sameS_ok {v u : Value} {xs ys : List Sta} (hx : SlR ⟨Try.prog, w0⟩ H D 2 Sta.cells v xs) (hy : SlR ⟨Try.prog, w0⟩ H E 2 Sta.cells u ys) (hb : xs.length < 4611686018427387904) (hk : K (.bool (decide (xs = ys))) n H) : ACall ⟨Try.prog, w0⟩ 30 [v, u] K n H := by
  refine ACall.res (fun K' hr => ?_) (by simp) hk
  refine ACall.run Try.func30 rfl Try.ntmps30 Try.results30 (by simp) fun J0 => ?_
  simp (disch := omega) [-hset_if, -Bool.decide_and, hset_ne, hx.lenK, hy.lenK]
  refine cif_bne (fun h0 => ?_) (fun h0 => ?_)
  rotate_left
  · simp (disch := omega) [-hset_if, -Bool.decide_and, hset_ne]
    exact hr.fin (by rw [decide_eq_false (fun e => h0 (by rw [e]))]) (by omega) (fun i hi => by simp (disch := omega) only [hset_ne])
  simp (disch := omega) [-hset_if, -Bool.decide_and, hset_ne]
  refine AW.while (σ := Nat) (fun j => xs.length - j) (fun j => [(0, v), (1, u), (5, .int .i64 j)])
    (fun j n1 H1 => n1 = n ∧ H1 = H ∧ j ≤ xs.length ∧ Res n H K' (.bool (decide (xs.drop j = ys.drop j)))) 0 ?_ ?_ ?_
  · simp (disch := omega) [-hset_if, -Bool.decide_and, hset_ne]
  · exact ⟨rfl, rfl, by omega, hr⟩
  clear hr
  rintro j n1 H1 ⟨rfl, rfl, g1, hr⟩
  simp (disch := omega) [-hset_if, -Bool.decide_and, hset_ne, hx.lenK]
  refine cif_dec (fun h => ?_) (fun h => ?_)
  · have hy2 : (j : Int) < ys.length := by omega
    rw [drop_at (l := xs) (j := j) (by omega), drop_at (l := ys) (j := j) (by omega)] at hr
    simp (disch := omega) [-hset_if, -Bool.decide_and, hset_ne]
    refine AW.draw (X := ⟨_, 26, _, _⟩) (id := 6) mixed (.take 0 <| .take 1 <| .take 2 <| .take 3 <| .take 4 <| .take 5 <| .take 6 <| .take 7 <| .take 8 <| .done) (by kernel_rfl) ?_
    simp (disch := omega) [-hset_if, -Bool.decide_and, hset_ne, hx.ix elemS44, hx.load0 shp53, hy.ix elemS44, hy.load0 shp53, h, hy2]
    refine cif_dec (fun h1 => ?_) (fun h1 => ?_)
    · simp (disch := omega) [-hset_if, -Bool.decide_and, hset_ne]
      refine Next.mk (j + 1) (by first | omega | (dsimp only; omega)) (by simp (disch := omega) [-hset_if, -Bool.decide_and, hset_ne]) ⟨rfl, rfl, by omega, ?_⟩
      have e : at_ xs (j : Int) = at_ ys (j : Int) := by
        cases hxx : at_ xs (j : Int); cases hyy : at_ ys (j : Int); rw [hxx, hyy] at h1; simp_all
      rw [e] at hr
      simpa using hr
    · simp (disch := omega) [-hset_if, -Bool.decide_and, hset_ne]
      exact hr.fin (by rw [decide_eq_false (fun e => h1 (by rw [(List.cons.inj e).1]; simp))]) (by omega) (fun i hi => by simp (disch := omega) only [hset_ne])
  · rw [List.drop_of_length_le (l := xs) (i := j) (by omega), List.drop_of_length_le (l := ys) (i := j) (by omega)] at hr
    simp (disch := omega) [-hset_if, -Bool.decide_and, hset_ne]
    exact hr.fin (by simp) (by omega) (fun i hi => by simp (disch := omega) only [hset_ne])
end Go.Aw.S56
