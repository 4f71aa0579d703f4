/-
  Chapter 50: the law that every request ends.
-/
import Derived.Test.YtfeclhjbkphjdaaS50u
namespace Go.Aw.S50
open Go.RowKit Go.Proofs Go.Aw.Tab
set_option linter.unusedSimpArgs false
set_option linter.unusedVariables false
set_option maxRecDepth 10000
set_option maxHeartbeats 2000000
set_option pp.deepTerms false
set_option pp.deepTerms.threshold 4
set_option pp.maxSteps 1500
variable {w0 : World} {n : Nat} {H : Heap} {K : Value → Nat → Heap → Prop} {pv : Value} {D0 : Nat → Prop} {l : List Opn}
attribute [local simp] Ans.cells Ask.cells Opn.cells Wt.cells Qt.cells intC NS.cells
/-- Every request is pending or has its outcome. -/
def Cnt (p : NP) : Prop := p.c.opn.length + p.c.done.length = p.data.length
theorem hand_cnt (c : Cl) (a : Ans) : (handC c a).2.opn.length + (handC c a).2.done.length = c.opn.length + c.done.length := by
  unfold handC
  dsimp only
  split
  · rfl
  rename_i hi
  obtain ⟨j, hj⟩ : ∃ j : Nat, fidx (fun w : Wt => w.inv == a.inv) c.opn = (j : Int) := ⟨(fidx (fun w : Wt => w.inv == a.inv) c.opn).toNat, by omega⟩
  obtain ⟨hjl, -, -⟩ := fidx_spec hj
  rw [hj, Int.toNat_natCast]
  have hl : (c.opn.eraseIdx j).length = c.opn.length - 1 := List.length_eraseIdx_of_lt hjl
  split
  · split
    · simp only [endC, hl, List.length_append, List.length_cons, List.length_nil]; omega
    · rfl
  split
  · rfl
  split
  · simp only [endC, hl, List.length_append, List.length_cons, List.length_nil]; omega
  · simp
theorem Cnt.hand {p : NP} (h : Cnt p) (a : Ans) : Cnt (handN p a) := by
  have := hand_cnt p.c a
  unfold Cnt at *
  simp only [handN]; omega
theorem Cnt.serve {p : NP} (h : Cnt p) (a : Ask) : Cnt (serveP p a) := by
  unfold serveP
  split
  · exact h
  split <;> exact h
theorem Cnt.step {p : NP} (h : Cnt p) (kind which : Int) (data : ByteArray) : Cnt (stepP p kind which data) := by
  unfold stepP
  split
  · unfold sendN
    split
    · rename_i e
      unfold Cnt at *
      dsimp only
      unfold sendP at e ⊢
      split at e
      · simp at e
      split at e
      · simp at e
      rename_i q1 q2
      rw [if_neg q1, if_neg q2]
      simp; omega
    · rename_i e
      unfold Cnt at *
      dsimp only
      unfold sendP at e ⊢
      split
      · exact h
      split
      · exact h
      · rename_i q1 q2
        rw [if_neg q1, if_neg q2] at e
        simp at e
  split
  · have := tk_len p.c p.c.opn
    unfold Cnt at *
    simp only [tickN, tickP, List.length_append]; omega
  split
  · unfold askN
    split
    · exact h
    dsimp only
    split
    · split
      · exact Cnt.serve (p := { p with asks := cut p.asks (ixW which p.asks.length) }) h _
      · exact h.serve _
    · split
      · exact h
      · exact h
  split
  · unfold ansN
    split
    · exact h
    dsimp only
    split
    · split
      · exact Cnt.hand (p := { p with answers := cut p.answers (ixW which p.answers.length) }) h _
      · exact h.hand _
    · split
      · exact h
      · exact h
  split
  · exact h
  · exact h
/-- How many ticks a request has at most. -/
def pot (c : Cl) (w : Wt) : Int := (c.ret - w.rep) * c.pat + (c.pat - w.wait) + (if w.known then 0 else c.pat)
def Pot (c : Cl) (B : Int) : Prop := ∀ w ∈ c.opn, pot c w ≤ B
def WtOk (c : Cl) : Prop := ∀ w ∈ c.opn, 0 ≤ w.wait ∧ w.wait < c.pat ∧ 0 ≤ w.rep ∧ w.rep ≤ c.ret
theorem Pot.first {c : Cl} (h : WtOk c) (hp : 1 ≤ c.pat) : Pot c (c.pat * (c.ret + 2)) := fun w hw => by
  obtain ⟨h1, h2, h3, h4⟩ := h w hw
  unfold pot
  have e1 : c.pat * (c.ret + 2) = c.ret * c.pat + c.pat + c.pat := by rw [Int.mul_add, Int.mul_comm]; omega
  have e2 : (c.ret - w.rep) * c.pat = c.ret * c.pat - w.rep * c.pat := Int.sub_mul _ _ _
  have e3 : 0 ≤ w.rep * c.pat := Int.mul_nonneg h3 (by omega)
  rw [e1, e2]
  split <;> omega
theorem Pot.tick {c : Cl} {B : Int} (h : Pot c (B + 1)) : Pot (tickP c).2 B := fun w hw => by
  simp only [tickP, tkW, List.mem_filterMap] at hw
  obtain ⟨w1, hw1, e⟩ := hw
  have h1 := h w1 hw1
  unfold pot at *
  unfold tk1 at e
  split at e
  · simp only [Option.some.injEq] at e
    subst e
    simp only [tickP]
    omega
  · split at e
    · cases e
    · simp only [Option.some.injEq] at e
      subst e
      simp only [tickP]
      have e2 : (c.ret - (w1.rep + 1)) * c.pat = (c.ret - w1.rep) * c.pat - c.pat := by
        rw [show c.ret - (w1.rep + 1) = (c.ret - w1.rep) - 1 by omega, Int.sub_mul, Int.one_mul]
      rw [e2]
      omega
theorem Pot.hand {c : Cl} {B : Int} (h : Pot c B) (hw : WtOk c) (a : Ans) : Pot (handC c a).2 B := by
  unfold handC
  dsimp only
  split
  · exact h
  rename_i hi
  obtain ⟨j, hj⟩ : ∃ j : Nat, fidx (fun w : Wt => w.inv == a.inv) c.opn = (j : Int) := ⟨(fidx (fun w : Wt => w.inv == a.inv) c.opn).toNat, by omega⟩
  obtain ⟨hjl, -, -⟩ := fidx_spec hj
  rw [hj, Int.toNat_natCast]
  have her : ∀ w ∈ c.opn.eraseIdx j, pot c w ≤ B := fun w hm => h w (List.mem_of_mem_eraseIdx hm)
  split
  · split
    · exact her
    · exact h
  split
  · exact h
  split
  · exact her
  · rename_i hkn
    intro w hm
    rcases List.mem_or_eq_of_mem_set hm with hm | hm
    · exact h w hm
    · have h1 := h _ (at_mem hjl)
      obtain ⟨h2, h3, h4, h5⟩ := hw _ (at_mem hjl)
      have hkn' : (at_ c.opn (j : Int)).known = false := by simpa using hkn
      subst hm
      unfold pot at *
      rw [hkn'] at h1
      simp only [Bool.false_eq_true, if_false, if_true] at h1 ⊢
      omega
theorem Pot.none {c : Cl} {B : Int} (h : Pot c B) (hw : WtOk c) (hB : B ≤ 0) : c.opn = [] := by
  cases hl : c.opn with
  | nil => rfl
  | cons w r =>
    have h1 := h w (by rw [hl]; simp)
    obtain ⟨h2, h3, h4, h5⟩ := hw w (by rw [hl]; simp)
    unfold pot at h1
    have e3 : 0 ≤ (c.ret - w.rep) * c.pat := Int.mul_nonneg (by omega) (by omega)
    split at h1 <;> omega
def tickD (p : NP) : NP := { p with c := (tickP p.c).2 }
theorem Fit.tickD {p : NP} {k : Nat} (h : Fit p k) : Fit (tickD p) (k + 1) := by
  have ht := h.tick
  have hu := h.up
  exact ⟨ht.c, hu.done, hu.mem, hu.asks, hu.answers, hu.given, h.small, ht.opn, hu.boot, h.keys⟩
theorem nTick_ok {n0 N k : Nat} {p : NP} {C : Nat} (h : NetX H w0 n0 n N p) (hf : Fit p k) (hk700 : k ≤ 700) (hC : ∃ cs, H N = .cells (.pointer (some ⟨new C, 0, none⟩) :: cs) 79 1)
    (hk : ∀ n' H' x L, n ≤ n' → (∀ i, i < n0 → H' i = H i) → NetX H' w0 n0 n' N (tickD p) → (∃ G, OwR ⟨Try.prog, w0⟩ H' n' G 35 3 Ask.cells x L ∧ L = (tickP p.c).1) → (H' N = H N) → K x n' H') : ACall ⟨Try.prog, w0⟩ 25 [.pointer (some ⟨new C, 0, none⟩)] K n H := by
  obtain ⟨col, s, g, rfl⟩ := h
  have hc := hf.c
  obtain ⟨cs, hcs⟩ := hC
  have hCC : C = s.C := by
    have := g.self
    rw [hcs] at this
    simp only [NS.cells, AObj.cells.injEq, List.cons.injEq, Value.pointer.injEq, Option.some.injEq, Addr.mk.injEq] at this
    have := this.1.1.1
    unfold new at this; omega
  subst hCC
  have hnc := hc.nc
  unfold ncOk at hnc
  dsimp only [NS.p] at hc hnc
  have h1 := hc.len
  have h2 := hc.most
  refine Tick_ok g.cli (by omega) (by omega) (fun w hw => by have := hc.wt w hw; omega) ?_
  intro n1 H1 D1 P1 v1 u1 E1 F1 x1 G1 d1 d2 d3 d4 d5 d6
  have g1 := g.clS d1 d2 d3 d4
  exact hk _ _ _ _ d1 (fun i hi => d2 i (by have := g.le; omega) (fun y => by have := (g.colD y).1; have := g.lo i hi; omega)) ⟨_, _, g1, rfl⟩ ⟨G1, d5, rfl⟩ (d2 N g.N0.2 (fun y => by have := (g.colD y).1; have := g.N0.1; omega))
end Go.Aw.S50
