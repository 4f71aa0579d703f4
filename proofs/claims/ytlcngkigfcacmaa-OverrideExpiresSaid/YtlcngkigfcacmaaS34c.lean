/-
  Chapter 34: Check.
-/
import Derived.Test.YtlcngkigfcacmaaS34b
namespace Go.Aw.S34
open Go.RowKit Go.Proofs Go.Aw.Tab
set_option linter.unusedSimpArgs false
set_option linter.unusedVariables false
set_option maxRecDepth 10000
set_option maxHeartbeats 1000000
set_option pp.deepTerms false
set_option pp.deepTerms.threshold 4
set_option pp.maxSteps 1500
attribute [local simp] Hold.cells
variable {w0 : World} {n : Nat} {H : Heap} {K : Value → Nat → Heap → Prop} {s : ByteArray}
/-- A slice's first part. -/
theorem _root_.Go.Aw.SlR.head {α : Type} {C : Ctx} {H : Heap} {D : Nat → Prop} {sz : Nat} {f : α → List Value} {v : Value} {xs : List α} (h : SlR C H D sz f v xs) {t : TypeId} (htk : tk C.P t = .slice) {e s b : Nat} (he : elemS C.P t = some (e, s, b)) {j : Nat} (hj : j ≤ xs.length) {q : IntKind} {k : Value → Prop}
    (hk : ∀ v', SlR C H D sz f v' (xs.take j) → k v') : sliceA C.P t v none (some (q, (j : Int))) k := by
  obtain ⟨A, c, rfl, h1, h2, h3, h4⟩ := h.shape
  unfold sliceA
  rw [htk]
  simp only [he, optK, lowI_none, highI_some, if_true]
  refine ⟨by omega, ?_⟩
  apply hk
  have hl : (xs.take j).length = j := by simp; omega
  refine ⟨h.pos, fun x hx => h.flen x (List.mem_of_mem_take hx), A, c, by rw [hl]; simp, by omega, fun hne => h2 (fun e => hne (by simp [e])), h3, fun a ha => ⟨(h4 a ha).1, fun i hi => ?_⟩⟩
  rw [(h4 a ha).2 i (by omega)]
  simp
def lsB (x y : ByteArray) : Bool := Op.bytesLess x.toList y.toList
def okAt (l : List Hold) (i : Nat) : Bool := (!decide (0 < i) || lsB (at_ l ((i : Int) - 1)).nm (at_ l (i : Int)).nm) && !(l.take i).any fun x => decide (x.seq = (at_ l (i : Int)).seq)
def dupF (l : List Hold) : Nat → Nat → Bool
  | 0, _ => true
  | k + 1, j => okAt l j && dupF l k (j + 1)
/-- The error of a list. -/
def chk (l : List Hold) : Int :=
  if 64 < l.length then 7
  else if l.all (fun h => nmB h.nm) = false then 4
  else if l.all rngB = false then 6
  else if l.all kindB = false then 11
  else if dupF l l.length 0 = false then 5 else 0
theorem dupF_step {l : List Hold} {j : Nat} (h : j < l.length) : dupF l (l.length - j) j = (okAt l j && dupF l (l.length - (j + 1)) (j + 1)) := by
  obtain ⟨k, hk⟩ : ∃ k, l.length - j = k + 1 := ⟨l.length - j - 1, by omega⟩
  rw [hk, dupF, show l.length - (j + 1) = k by omega]
theorem dupF_end {l : List Hold} {j : Nat} (h : ¬ j < l.length) : dupF l (l.length - j) j = true := by
  rw [show l.length - j = 0 by omega, dupF]
theorem check_r {pv : Value} {D : Nat → Prop} {l : List Hold} (hs : SlR ⟨Try.prog, w0⟩ H D 6 Hold.cells pv l) (hD : ∀ i, D i → i < n) (hb : l.length < 4611686018427387904) (hr : Res n H K (.int .i64 (chk l))) : ACall ⟨Try.prog, w0⟩ 15 [pv] K n H := by
  have hcells := hs.cells
  unfold chk at hr
  refine ACall.run Try.func15 rfl Try.ntmps15 Try.results15 (by simp) fun J0 => ?_
  simp (disch := omega) [-hset_if, -Bool.decide_and, hset_ne, hcells, hs.lenK]
  refine cif_dec (fun h1 => ?_) (fun h1 => ?_)
  · simp (disch := omega) [-hset_if, -Bool.decide_and, hset_ne, hcells]
    rw [if_pos (by omega)] at hr
    exact hr.fin rfl (by omega) (fun i hi => by simp (disch := omega) only [hset_ne])
  rw [if_neg (by omega)] at hr
  simp (disch := omega) [-hset_if, -Bool.decide_and, hset_ne, hcells]
  have hs1 : SlR ⟨Try.prog, w0⟩ (hset n (.cells [pv] 22 1) H) D 6 Hold.cells pv l := hs.frame (fun i hi => by have := hD i hi; simp (disch := omega) [-hset_if, -Bool.decide_and, hset_ne])
  have hD1 : ∀ i, D i → i < n + 1 := fun i hi => by have := hD i hi; omega
  have hg : hset n (.cells [pv] 22 1) H n = .cells [pv] 22 1 := hset_same _ _ _
  have hfr : ∀ i, i < n → hset n (.cells [pv] 22 1) H i = H i := (fun i hi => by simp (disch := omega) only [hset_ne])
  generalize hset n (.cells [pv] 22 1) H = G at hs1 hg hfr ⊢
  refine every_ok hs1 hD1 (by omega) hg (fun r hr n' H' K' h => clName_ok (n := n') r h) (by omega) (by kernel_rfl) ?_
  simp (disch := omega) [-hset_if, -Bool.decide_and, hset_ne, hg]
  refine cif_var (fun h2 => ?_) (fun h2 => ?_)
  rotate_left
  · simp (disch := omega) [-hset_if, -Bool.decide_and, hset_ne]
    rw [if_pos h2] at hr
    exact hr.fin rfl (by omega) hfr
  rw [if_neg (by simp [h2])] at hr
  simp (disch := omega) [-hset_if, -Bool.decide_and, hset_ne, hg]
  refine every_ok hs1 hD1 (by omega) hg (fun r hr n' H' K' h => clRange_ok (n := n') r h) (by omega) (by kernel_rfl) ?_
  simp (disch := omega) [-hset_if, -Bool.decide_and, hset_ne, hg]
  refine cif_var (fun h3 => ?_) (fun h3 => ?_)
  rotate_left
  · simp (disch := omega) [-hset_if, -Bool.decide_and, hset_ne]
    rw [if_pos h3] at hr
    exact hr.fin rfl (by omega) hfr
  rw [if_neg (by simp [h3])] at hr
  simp (disch := omega) [-hset_if, -Bool.decide_and, hset_ne, hg]
  refine every_ok hs1 hD1 (by omega) hg (fun r hr n' H' K' h => clKind_ok (n := n') r h) (by omega) (by kernel_rfl) ?_
  simp (disch := omega) [-hset_if, -Bool.decide_and, hset_ne, hg]
  refine cif_var (fun h4 => ?_) (fun h4 => ?_)
  rotate_left
  · simp (disch := omega) [-hset_if, -Bool.decide_and, hset_ne]
    rw [if_pos h4] at hr
    exact hr.fin rfl (by omega) hfr
  rw [if_neg (by simp [h4])] at hr
  simp (disch := omega) [-hset_if, -Bool.decide_and, hset_ne, hg, hs1.lenK]
  clear hs hD hcells
  refine AW.while (σ := Nat) (fun j => l.length - j) (fun j => [(1, .pointer (some ⟨new n, 0, none⟩)), (19, pv), (20, .int .i64 l.length), (21, .int .i64 j)])
    (fun j n1 H1 => n + 1 ≤ n1 ∧ (∀ i, i < n + 1 → H1 i = G i) ∧ j ≤ l.length ∧ Res n H K (.int .i64 (if dupF l (l.length - j) j = false then 5 else 0))) 0 ?_ ?_ ?_
  · simp (disch := omega) [-hset_if, -Bool.decide_and, hset_ne]
  · exact ⟨by omega, fun _ _ => rfl, by omega, hr⟩
  clear hr
  rintro j n1 H1 ⟨g1, g2, g3, hr⟩
  have hs2 : SlR ⟨Try.prog, w0⟩ H1 D 6 Hold.cells pv l := hs1.frame (fun i hi => g2 i (hD1 i hi))
  have hD2 : ∀ i, D i → i < n1 := fun i hi => by have := hD1 i hi; omega
  have hg2 : H1 n = .cells [pv] 22 1 := by rw [g2 n (by omega), hg]
  have hfr2 : ∀ i, i < n → H1 i = H i := fun i hi => by rw [g2 i (by omega), hfr i hi]
  clear hs1 hD1 hg hfr
  simp (disch := omega) [-hset_if, -Bool.decide_and, hset_ne, hs2.lenK]
  refine cif_dec (fun h => ?_) (fun h => ?_)
  · rw [dupF_step h] at hr
    simp (disch := omega) [-hset_if, -Bool.decide_and, hset_ne, hs2.ix elemS22, hs2.load shp43, hs2.load0 shp43, hg2]
    have hs3 := fun o => (hs2.frame (H' := hset n1 o H1) (fun i hi => by have := hD2 i hi; simp (disch := omega) [-hset_if, -Bool.decide_and, hset_ne]))
    have ha := fun o => (hs3 o).load shp9
    have hb := fun o => (hs3 o).load0 shp9
    refine AW.draw (X := ⟨_, 47, _, _⟩) (id := 13) mixed (.take 0 <| .take 1 <| .take 2 <| .take 3 <| .take 4 <| .take 5 <| .take 6 <| .take 7 <| .take 8 <| .take 9 <| .take 10 <| .take 11 <| .take 12 <| .take 13 <| .take 14 <| .take 15 <| .take 16 <| .take 17 <| .each 18 [] (.take 19 <| .done) <| .stop) (by kernel_rfl) ?_
    simp (disch := omega) [-hset_if, -Bool.decide_and, hset_ne, ha, hb, hs2.ix elemS22, hs2.load shp43, hs2.load0 shp43, hs2.load shp9, hs2.load0 shp9, hg2]
    repeat' (first | (with_reducible intro _; first | (exfalso; omega) | (simp (disch := omega) [-hset_if, -Bool.decide_and, hset_ne, ha, hb, hs2.ix elemS22, hs2.load shp43, hs2.load0 shp43, hs2.load shp9, hs2.load0 shp9, hg2, h]) | skip) | (with_reducible refine And.intro ?_ ?_; omega) | with_reducible apply cif_dec | with_reducible apply cif_beq | with_reducible apply cif_bne | with_reducible apply cif_var | with_reducible apply gif_dec | with_reducible apply gif_ndec | with_reducible apply gif_beq | with_reducible apply gif_bne | with_reducible apply gif_nbeq | with_reducible apply gif_var)
    · have e : okAt l j = false := by simp only [okAt, lsB]; simp_all
      rw [e, Bool.false_and, if_pos rfl] at hr
      exact hr.fin rfl (by omega) (fun i hi => by rw [hset_ne (by omega)]; exact hfr2 i hi)
    · refine (hs3 (.cells (at_ l (j : Int)).cells 43 1)).head tk22 elemS22 (Nat.le_of_lt h) ?_
      intro v' hv'
      have hent : entB Try.prog 39 = true := by kernel_rfl
      simp (disch := omega) [-hset_if, -Bool.decide_and, hset_ne, hent]
      refine containsHold_p (p := fun x => decide (x.seq = (at_ l (j : Int)).seq)) hv' (fun i hi => by have := hD2 i hi; omega) ?_ (by simp; omega) (by kernel_rfl) ?_
      · intro r hr n' H' K' h1 h2 h3
        exact clSeq_ok r (at_ l (j : Int)) (m := n1) (by omega) (by rw [h2 n1 (by omega)]; simp) h3
      simp (disch := omega) [-hset_if, -Bool.decide_and, hset_ne]
      refine cif_var (fun hx => ?_) (fun hx => ?_)
      · have e : okAt l j = false := by simp only [okAt, lsB]; simp_all
        simp (disch := omega) [-hset_if, -Bool.decide_and, hset_ne]
        rw [e, Bool.false_and, if_pos rfl] at hr
        exact hr.fin rfl (by omega) (fun i hi => by rw [hset_ne (by omega)]; exact hfr2 i hi)
      · have e : okAt l j = true := by simp only [okAt, lsB]; simp_all
        simp (disch := omega) [-hset_if, -Bool.decide_and, hset_ne]
        rw [e, Bool.true_and] at hr
        refine Next.mk (j + 1) (by omega) (by simp (disch := omega) [-hset_if, -Bool.decide_and, hset_ne]) ⟨by omega, fun i hi => by rw [hset_ne (by omega)]; exact g2 i hi, by omega, hr⟩
    · refine (hs3 (.cells (at_ l (j : Int)).cells 43 1)).head tk22 elemS22 (Nat.le_of_lt h) ?_
      intro v' hv'
      have hent : entB Try.prog 39 = true := by kernel_rfl
      simp (disch := omega) [-hset_if, -Bool.decide_and, hset_ne, hent]
      refine containsHold_p (p := fun x => decide (x.seq = (at_ l (j : Int)).seq)) hv' (fun i hi => by have := hD2 i hi; omega) ?_ (by simp; omega) (by kernel_rfl) ?_
      · intro r hr n' H' K' h1 h2 h3
        exact clSeq_ok r (at_ l (j : Int)) (m := n1) (by omega) (by rw [h2 n1 (by omega)]; simp) h3
      simp (disch := omega) [-hset_if, -Bool.decide_and, hset_ne]
      refine cif_var (fun hx => ?_) (fun hx => ?_)
      · have e : okAt l j = false := by simp only [okAt, lsB]; simp_all
        simp (disch := omega) [-hset_if, -Bool.decide_and, hset_ne]
        rw [e, Bool.false_and, if_pos rfl] at hr
        exact hr.fin rfl (by omega) (fun i hi => by rw [hset_ne (by omega)]; exact hfr2 i hi)
      · have e : okAt l j = true := by simp only [okAt, lsB]; simp_all
        simp (disch := omega) [-hset_if, -Bool.decide_and, hset_ne]
        rw [e, Bool.true_and] at hr
        refine Next.mk (j + 1) (by omega) (by simp (disch := omega) [-hset_if, -Bool.decide_and, hset_ne]) ⟨by omega, fun i hi => by rw [hset_ne (by omega)]; exact g2 i hi, by omega, hr⟩
  · simp (disch := omega) [-hset_if, -Bool.decide_and, hset_ne]
    rw [dupF_end h] at hr
    exact hr.fin rfl (by omega) hfr2
theorem check_ok {pv : Value} {D : Nat → Prop} {l : List Hold} (hs : SlR ⟨Try.prog, w0⟩ H D 6 Hold.cells pv l) (hD : ∀ i, D i → i < n) (hb : l.length < 4611686018427387904) (hk : K (.int .i64 (chk l)) n H) : ACall ⟨Try.prog, w0⟩ 15 [pv] K n H :=
  ACall.res (fun _ h => check_r hs hD hb h) (by simp) hk
/-! ### The specification's Check -/
theorem in_ok (x a b : Int) (hk : K (.bool (decide (a ≤ x ∧ x ≤ b))) n H) : ACall ⟨Try.prog, w0⟩ 31 [.int .i64 x, .int .i64 a, .int .i64 b] K n H := by
  refine ACall.go Try.func31 rfl Try.ntmps31 Try.results31 (by simp) fun hU hu J0 => ?_
  simp (disch := omega) [-hset_if, -Bool.decide_and, hset_ne]
  repeat' (first | (with_reducible intro _; first | (exfalso; omega) | (simp (disch := omega) [-hset_if, -Bool.decide_and, hset_ne]) | skip) | (with_reducible refine And.intro ?_ ?_; omega) | with_reducible apply cif_dec | with_reducible apply cif_beq | with_reducible apply cif_bne | with_reducible apply cif_var | with_reducible apply gif_dec | with_reducible apply gif_ndec | with_reducible apply gif_beq | with_reducible apply gif_bne | with_reducible apply gif_nbeq | with_reducible apply gif_var)
  all_goals refine Fin.ret hU hk (by simp) ?_ (by omega) (fun i hi => by simp (disch := omega) only [hset_ne])
  all_goals congr 1
  all_goals rw [Bool.eq_iff_iff]
  all_goals simp
  all_goals omega
def rAt (l : List Hold) (i : Nat) : Bool := (l.take i).all fun x => !decide (x.seq = (at_ l (i : Int)).seq) && lsB x.nm (at_ l (i : Int)).nm
def rF (l : List Hold) : Nat → Nat → Bool
  | 0, _ => true
  | k + 1, j => rAt l j && rF l k (j + 1)
theorem rF_step {l : List Hold} {j : Nat} (h : j < l.length) : rF l (l.length - j) j = (rAt l j && rF l (l.length - (j + 1)) (j + 1)) := by
  obtain ⟨k, hk⟩ : ∃ k, l.length - j = k + 1 := ⟨l.length - j - 1, by omega⟩
  rw [hk, rF, show l.length - (j + 1) = k by omega]
theorem rF_end {l : List Hold} {j : Nat} (h : ¬ j < l.length) : rF l (l.length - j) j = true := by
  rw [show l.length - j = 0 by omega, rF]
def stF (l : List Hold) : Int := if rF l l.length 0 = false then 5 else 0
def stK (l m : List Hold) : Int := if m.all kindB = false then 11 else stF l
def stR (l m : List Hold) : Int := if m.all rngB = false then 6 else stK l l
def stN (l m : List Hold) : Int := if m.all (fun h => nmB h.nm) = false then 4 else stR l l
def chkR (l : List Hold) : Int := if 64 < l.length then 7 else stN l l
def okP (l : List Hold) (i : Nat) (x : Hold) : Bool := !decide (x.seq = (at_ l (i : Int)).seq) && lsB x.nm (at_ l (i : Int)).nm
def stD (l : List Hold) (i k : Nat) : Int := if (((l.take i).drop k).all (okP l i) && rF l (l.length - (i + 1)) (i + 1)) = false then 5 else 0
def stE (l : List Hold) (i : Nat) : Int := if rF l (l.length - i) i = false then 5 else 0
section
variable {l m : List Hold} {x : Hold} {i k : Nat}
theorem stN_nil : stN l [] = stR l l := by simp [stN]
theorem stN_yes (h : nmB x.nm = true) : stN l (x :: m) = stN l m := by simp [stN, h]
theorem stN_no (h : nmB x.nm = false) : stN l (x :: m) = 4 := by simp [stN, h]
theorem stR_nil : stR l [] = stK l l := by simp [stR]
theorem stR_yes (h : rngB x = true) : stR l (x :: m) = stR l m := by simp [stR, h]
theorem stR_no (h : rngB x = false) : stR l (x :: m) = 6 := by simp [stR, h]
theorem stK_nil : stK l [] = stE l 0 := by simp [stK, stE, stF]
theorem stK_yes (h : kindB x = true) : stK l (x :: m) = stK l m := by simp [stK, h]
theorem stK_no (h : kindB x = false) : stK l (x :: m) = 11 := by simp [stK, h]
theorem stE_next (h : i < l.length) : stE l i = stD l i 0 := by
  unfold stE stD
  rw [rF_step h, rAt]; rfl
theorem stE_end (h : ¬ i < l.length) : stE l i = 0 := by simp [stE, rF_end h]
theorem stD_end (h : i ≤ k) : stD l i k = stE l (i + 1) := by
  unfold stD stE
  rw [List.drop_of_length_le (by simp; omega)]
  simp
theorem at_take (hi : k < i) (h : i ≤ l.length) : at_ (l.take i) (k : Int) = at_ l (k : Int) := by
  rw [at_nat (by simp; omega), at_nat (by omega)]; simp
theorem stD_next (hi : k < i) (h : i ≤ l.length) (hp : okP l i (at_ l (k : Int)) = true) : stD l i k = stD l i (k + 1) := by
  unfold stD
  rw [drop_at (by simp; omega), at_take hi h, List.all_cons, hp, Bool.true_and]
theorem stD_no (hi : k < i) (h : i ≤ l.length) (hp : okP l i (at_ l (k : Int)) = false) : stD l i k = 5 := by
  unfold stD
  rw [drop_at (by simp; omega), at_take hi h, List.all_cons, hp]; rfl
end
theorem checkR_r {pv : Value} {D : Nat → Prop} {l : List Hold} (hs : SlR ⟨Try.prog, w0⟩ H D 6 Hold.cells pv l) (hD : ∀ i, D i → i < n) (hb : l.length < 4611686018427387904) (hn : ∀ x ∈ l, x.nm.size ≤ 4611686018427387903) (hr : Res n H K (.int .i64 (chkR l))) : ACall ⟨Try.prog, w0⟩ 13 [pv] K n H := by
  have hcells := hs.cells
  unfold chkR at hr
  refine ACall.run Try.func13 rfl Try.ntmps13 Try.results13 (by simp) fun J0 => ?_
  simp (disch := omega) [-hset_if, -Bool.decide_and, hset_ne, hcells, hs.lenK]
  refine cif_dec (fun h1 => ?_) (fun h1 => ?_)
  · simp (disch := omega) [-hset_if, -Bool.decide_and, hset_ne, hcells]
    rw [if_pos (by omega)] at hr
    exact hr.fin rfl (by omega) (fun i hi => by simp (disch := omega) only [hset_ne])
  rw [if_neg (by omega)] at hr
  simp (disch := omega) [-hset_if, -Bool.decide_and, hset_ne, hcells]
  refine AW.while (σ := Nat) (fun j => l.length - j) (fun j => [(0, pv), (3, .int .i64 j)])
    (fun j n1 H1 => n1 = n ∧ H1 = H ∧ j ≤ l.length ∧ Res n H K (.int .i64 (stN l (l.drop j)))) 0 ?_ ?_ ?_
  · simp (disch := omega) [-hset_if, -Bool.decide_and, hset_ne]
  · exact ⟨rfl, rfl, by omega, hr⟩
  clear hr
  rintro j n1 H1 ⟨rfl, rfl, g1, hr⟩
  simp (disch := omega) [-hset_if, -Bool.decide_and, hset_ne, hs.lenK]
  refine cif_dec (fun h => ?_) (fun h => ?_)
  · rw [drop_at h] at hr
    have hx : at_ l (j : Int) ∈ l := by rw [at_nat h]; exact List.getElem_mem _
    simp (disch := omega) [-hset_if, -Bool.decide_and, hset_ne, hs.ix elemS22, hs.load shp9, hs.load0 shp9]
    refine nameR_ok (hn _ hx) ?_
    simp (disch := omega) [-hset_if, -Bool.decide_and, hset_ne]
    refine cif_var (fun hv => ?_) (fun hv => ?_)
    · simp (disch := omega) [-hset_if, -Bool.decide_and, hset_ne]
      rw [stN_yes hv] at hr
      exact Next.mk (j + 1) (by omega) (by simp (disch := omega) [-hset_if, -Bool.decide_and, hset_ne]) ⟨rfl, rfl, by omega, hr⟩
    · simp (disch := omega) [-hset_if, -Bool.decide_and, hset_ne]
      rw [stN_no hv] at hr
      exact hr.fin rfl (by omega) (fun i hi => by simp (disch := omega) only [hset_ne])
  rw [List.drop_of_length_le (by omega), stN_nil] at hr
  simp (disch := omega) [-hset_if, -Bool.decide_and, hset_ne]
  refine AW.while (σ := Nat) (fun j => l.length - j) (fun j => [(0, pv), (4, .int .i64 j)])
    (fun j n2 H2 => n1 ≤ n2 ∧ (∀ i, i < n1 → H2 i = H1 i) ∧ j ≤ l.length ∧ Res n1 H1 K (.int .i64 (stR l (l.drop j)))) 0 ?_ ?_ ?_
  · simp (disch := omega) [-hset_if, -Bool.decide_and, hset_ne]
  · exact ⟨by omega, fun _ _ => rfl, by omega, hr⟩
  clear hr h g1
  rintro j n2 H2 ⟨g1, g2, g3, hr⟩
  have hs2 : SlR ⟨Try.prog, w0⟩ H2 D 6 Hold.cells pv l := hs.frame (fun i hi => g2 i (hD i hi))
  simp (disch := omega) [-hset_if, -Bool.decide_and, hset_ne, hs2.lenK]
  refine cif_dec (fun h => ?_) (fun h => ?_)
  · rw [drop_at h] at hr
    simp (disch := omega) [-hset_if, -Bool.decide_and, hset_ne, hs2.ix elemS22, hs2.load shp43, hs2.load0 shp43]
    refine in_ok _ _ _ ?_
    simp (disch := omega) [-hset_if, -Bool.decide_and, hset_ne]
    repeat' (first | (with_reducible intro _; first | (exfalso; omega) | (simp (disch := omega) [-hset_if, -Bool.decide_and, hset_ne]) | skip) | (with_reducible refine And.intro ?_ ?_; omega) | with_reducible apply cif_dec | with_reducible apply cif_beq | with_reducible apply cif_bne | with_reducible apply cif_var | with_reducible apply gif_dec | with_reducible apply gif_ndec | with_reducible apply gif_beq | with_reducible apply gif_bne | with_reducible apply gif_nbeq | with_reducible apply gif_var)
    any_goals
      (refine in_ok _ _ _ ?_
       simp (disch := omega) [-hset_if, -Bool.decide_and, hset_ne])
    repeat' (first | (with_reducible intro _; first | (exfalso; omega) | (simp (disch := omega) [-hset_if, -Bool.decide_and, hset_ne]) | skip) | (with_reducible refine And.intro ?_ ?_; omega) | with_reducible apply cif_dec | with_reducible apply cif_beq | with_reducible apply cif_bne | with_reducible apply cif_var | with_reducible apply gif_dec | with_reducible apply gif_ndec | with_reducible apply gif_beq | with_reducible apply gif_bne | with_reducible apply gif_nbeq | with_reducible apply gif_var)
    any_goals
      (refine in_ok _ _ _ ?_
       simp (disch := omega) [-hset_if, -Bool.decide_and, hset_ne])
    repeat' (first | (with_reducible intro _; first | (exfalso; omega) | (simp (disch := omega) [-hset_if, -Bool.decide_and, hset_ne]) | skip) | (with_reducible refine And.intro ?_ ?_; omega) | with_reducible apply cif_dec | with_reducible apply cif_beq | with_reducible apply cif_bne | with_reducible apply cif_var | with_reducible apply gif_dec | with_reducible apply gif_ndec | with_reducible apply gif_beq | with_reducible apply gif_bne | with_reducible apply gif_nbeq | with_reducible apply gif_var)
    all_goals first
      | (rw [stR_no (by simp [rngB]; omega)] at hr; exact hr.fin rfl (by omega) (fun i hi => by rw [hset_ne (by omega)]; exact g2 i hi))
      | (rw [stR_yes (by simp [rngB]; omega)] at hr
         exact Next.mk (j + 1) (by omega) (by simp (disch := omega) [-hset_if, -Bool.decide_and, hset_ne]) ⟨by omega, fun i hi => by rw [hset_ne (by omega)]; exact g2 i hi, by omega, hr⟩)
  rw [List.drop_of_length_le (by omega), stR_nil] at hr
  simp (disch := omega) [-hset_if, -Bool.decide_and, hset_ne]
  refine AW.while (σ := Nat) (fun j => l.length - j) (fun j => [(0, pv), (6, .int .i64 j)])
    (fun j n3 H3 => n3 = n2 ∧ H3 = H2 ∧ j ≤ l.length ∧ Res n1 H1 K (.int .i64 (stK l (l.drop j)))) 0 ?_ ?_ ?_
  · simp (disch := omega) [-hset_if, -Bool.decide_and, hset_ne]
  · exact ⟨rfl, rfl, by omega, hr⟩
  clear hr h g3
  rintro j n3 H3 ⟨rfl, rfl, g3, hr⟩
  simp (disch := omega) [-hset_if, -Bool.decide_and, hset_ne, hs2.lenK]
  refine cif_dec (fun h => ?_) (fun h => ?_)
  · rw [drop_at h] at hr
    simp (disch := omega) [-hset_if, -Bool.decide_and, hset_ne, hs2.ix elemS22, Addr.add_add]
    simp (disch := omega) [-hset_if, -Bool.decide_and, hset_ne, hs2.load shp3, hs2.load0 shp3]
    refine in_ok _ _ _ ?_
    simp (disch := omega) [-hset_if, -Bool.decide_and, hset_ne]
    repeat' (first | (with_reducible intro _; first | (exfalso; omega) | (simp (disch := omega) [-hset_if, -Bool.decide_and, hset_ne]) | skip) | (with_reducible refine And.intro ?_ ?_; omega) | with_reducible apply cif_dec | with_reducible apply cif_beq | with_reducible apply cif_bne | with_reducible apply cif_var | with_reducible apply gif_dec | with_reducible apply gif_ndec | with_reducible apply gif_beq | with_reducible apply gif_bne | with_reducible apply gif_nbeq | with_reducible apply gif_var)
    · rw [stK_yes (by simp [kindB]; omega)] at hr
      exact Next.mk (j + 1) (by omega) (by simp (disch := omega) [-hset_if, -Bool.decide_and, hset_ne]) ⟨rfl, rfl, by omega, hr⟩
    · rw [stK_no (by simp [kindB]; omega)] at hr
      exact hr.fin rfl (by omega) g2
  rw [List.drop_of_length_le (by omega), stK_nil] at hr
  simp (disch := omega) [-hset_if, -Bool.decide_and, hset_ne]
  refine AW.while (σ := Nat) (fun j => l.length - j) (fun j => [(0, pv), (7, .int .i64 j)])
    (fun j n4 H4 => n4 = n3 ∧ H4 = H3 ∧ j ≤ l.length ∧ Res n1 H1 K (.int .i64 (stE l j))) 0 ?_ ?_ ?_
  · simp (disch := omega) [-hset_if, -Bool.decide_and, hset_ne]
  · exact ⟨rfl, rfl, by omega, hr⟩
  clear hr h g3
  rintro i n4 H4 ⟨rfl, rfl, g3, hr⟩
  simp (disch := omega) [-hset_if, -Bool.decide_and, hset_ne, hs2.lenK]
  refine cif_dec (fun h => ?_) (fun h => ?_)
  · rw [stE_next h] at hr
    simp (disch := omega) [-hset_if, -Bool.decide_and, hset_ne]
    refine AW.while (σ := Nat) (fun k => i - k) (fun k => [(0, pv), (7, .int .i64 i), (8, .int .i64 k)])
      (fun k n5 H5 => n5 = n4 ∧ H5 = H4 ∧ k ≤ i ∧ Res n1 H1 K (.int .i64 (stD l i k))) 0 ?_ ?_ ?_
    · simp (disch := omega) [-hset_if, -Bool.decide_and, hset_ne]
    · exact ⟨rfl, rfl, by omega, hr⟩
    clear hr
    rintro k n5 H5 ⟨rfl, rfl, g4, hr⟩
    simp (disch := omega) [-hset_if, -Bool.decide_and, hset_ne]
    refine cif_dec (fun hk => ?_) (fun hk => ?_)
    · have hl : (k : Int) < l.length := by omega
      simp (disch := omega) [-hset_if, -Bool.decide_and, hset_ne]
      refine AW.draw (X := ⟨_, 107, _, _⟩) (id := 25) mixed (.take 0 <| .take 1 <| .take 2 <| .take 3 <| .take 4 <| .take 5 <| .take 6 <| .take 7 <| .take 8 <| .take 9 <| .take 10 <| .take 11 <| .take 12 <| .take 13 <| .take 14 <| .take 15 <| .take 16 <| .take 17 <| .take 18 <| .take 19 <| .take 20 <| .take 21 <| .take 22 <| .take 23 <| .done) (by kernel_rfl) ?_
      simp (disch := omega) [-hset_if, -Bool.decide_and, hset_ne, hs2.ix elemS22, hs2.load shp3, hs2.load0 shp3, hs2.load shp9, hs2.load0 shp9, hl, h]
      repeat' (first | (with_reducible intro _; first | (exfalso; omega) | (simp (disch := omega) [-hset_if, -Bool.decide_and, hset_ne, hs2.ix elemS22, hs2.load shp3, hs2.load0 shp3, hs2.load shp9, hs2.load0 shp9, hl, h]) | skip) | (with_reducible refine And.intro ?_ ?_; omega) | with_reducible apply cif_dec | with_reducible apply cif_beq | with_reducible apply cif_bne | with_reducible apply cif_var | with_reducible apply gif_dec | with_reducible apply gif_ndec | with_reducible apply gif_beq | with_reducible apply gif_bne | with_reducible apply gif_nbeq | with_reducible apply gif_var)
      all_goals first
        | (rw [stD_no (by omega) (by omega) (by simp only [okP, lsB]; simp_all)] at hr; exact hr.fin rfl (by omega) g2)
        | (rw [stD_next (by omega) (by omega) (by simp only [okP, lsB]; simp_all)] at hr
           exact Next.mk (k + 1) (by omega) (by simp (disch := omega) [-hset_if, -Bool.decide_and, hset_ne]) ⟨rfl, rfl, by omega, hr⟩)
    · rw [stD_end (by omega)] at hr
      simp (disch := omega) [-hset_if, -Bool.decide_and, hset_ne]
      exact Next.mk (i + 1) (by omega) (by simp (disch := omega) [-hset_if, -Bool.decide_and, hset_ne]) ⟨rfl, rfl, by omega, hr⟩
  rw [stE_end h] at hr
  simp (disch := omega) [-hset_if, -Bool.decide_and, hset_ne]
  exact hr.fin rfl (by omega) g2
theorem checkR_ok {pv : Value} {D : Nat → Prop} {l : List Hold} (hs : SlR ⟨Try.prog, w0⟩ H D 6 Hold.cells pv l) (hD : ∀ i, D i → i < n) (hb : l.length < 4611686018427387904) (hn : ∀ x ∈ l, x.nm.size ≤ 4611686018427387903) (hk : K (.int .i64 (chkR l)) n H) : ACall ⟨Try.prog, w0⟩ 13 [pv] K n H :=
  ACall.res (fun _ h => checkR_r hs hD hb hn h) (by simp) hk
end Go.Aw.S34
