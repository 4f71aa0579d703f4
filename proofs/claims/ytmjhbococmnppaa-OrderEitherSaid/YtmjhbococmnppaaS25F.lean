/-
  Chapter 25: the example.
-/
import Derived.Test.YtmjhbococmnppaaS25E
namespace Go.Aw.S25
open Go.RowKit Go.Proofs Go.Aw.Tab
set_option linter.unusedSimpArgs false
set_option linter.unusedVariables false
set_option maxRecDepth 10000
set_option maxHeartbeats 1000000
set_option pp.deepTerms false
set_option pp.deepTerms.threshold 4
set_option pp.maxSteps 1500
attribute [local simp] Lk.cells Nd.cells Dr.cells Pg.val intC boolC
variable {w0 : World} {n : Nat} {H : Heap} {K : Value → Nat → Heap → Prop} {p : Pg} {D E : Nat → Prop}
def lkE (c : UInt8) (b : Bool) : Lk := ⟨⟨#[c]⟩, 0, ⟨#[]⟩, 0, 0, b, 0, 0⟩
def exN (v0 v1 v2 : Value) : List Nd := [⟨⟨#[97]⟩, ⟨#[]⟩, .slice none 0 0, v0, [lkE 99 true]⟩, ⟨⟨#[98]⟩, ⟨#[]⟩, .slice none 0 0, v1, [lkE 97 false, lkE 99 false]⟩, ⟨⟨#[99]⟩, ⟨#[]⟩, .slice none 0 0, v2, [lkE 100 false]⟩, ⟨⟨#[100]⟩, ⟨#[]⟩, .slice none 0 0, .slice none 0 0, []⟩]
def exD : List Dr := [⟨⟨#[]⟩, 0, lkE 99 false⟩]
theorem ex_feeds (v0 v1 v2 : Value) : feedsP (exN v0 v1 v2) false = [[], [0, 2], [3], []] := by kernel_rfl
theorem ex_from (v0 v1 v2 : Value) : feedsP (exN v0 v1 v2) true = [[2], [0, 2], [3], []] := by kernel_rfl
theorem ex_srcs (v0 v1 v2 : Value) : srcs (exN v0 v1 v2) exD = [2] := by
  unfold srcs exD linksP
  have e : rawP (exN v0 v1 v2) true [lkE 99 false] = [2] := by kernel_rfl
  simp only [List.flatMap_cons, List.flatMap_nil, List.append_nil, e]
  simp [sortI, compI]
theorem ex_check (v0 v1 v2 nv dv : Value) (per : Int) (nm : ByteArray) : checkP ⟨nm, per, nv, dv, exN v0 v1 v2, exD⟩ = 0 := by
  unfold checkP
  rw [if_neg (by simp [exN]), if_neg, if_pos]
  · kernel_rfl
  · rw [show nodupB (exN v0 v1 v2) = true from by kernel_rfl]; simp
theorem rg20 : (List.range 2)[0]? = some 0 := by kernel_rfl
theorem rg21 : (List.range 2)[1]? = some 1 := by kernel_rfl
theorem rg40 : (List.range 4)[0]? = some 0 := by kernel_rfl
theorem rg41 : (List.range 4)[1]? = some 1 := by kernel_rfl
theorem rg42 : (List.range 4)[2]? = some 2 := by kernel_rfl
theorem rg43 : (List.range 4)[3]? = some 3 := by kernel_rfl
theorem example_ok (hk : ∀ n' H' q v0 v1 v2, n ≤ n' → (∀ i, i < n → H' i = H i) → PrR H' w0 (fun i => n ≤ i ∧ i < n') q → q.nds = exN v0 v1 v2 → q.drs = exD → K q.val n' H') : ACall ⟨Try.prog, w0⟩ 30 [] K n H := by
  refine ACall.run Try.func30 rfl Try.ntmps30 Try.results30 (by simp) fun J0 => ?_
  simp (disch := omega) [-hset_if, -Bool.decide_and, hset_ne]
  refine from_ok ?_
  simp (disch := omega) [-hset_if, -Bool.decide_and, hset_ne, rg20, rg21, rg40, rg41, rg42, rg43]
  refine from_ok ?_
  simp (disch := omega) [-hset_if, -Bool.decide_and, hset_ne, rg20, rg21, rg40, rg41, rg42, rg43]
  refine from_ok ?_
  simp (disch := omega) [-hset_if, -Bool.decide_and, hset_ne, rg20, rg21, rg40, rg41, rg42, rg43]
  refine from_ok ?_
  simp (disch := omega) [-hset_if, -Bool.decide_and, hset_ne, rg20, rg21, rg40, rg41, rg42, rg43]
  refine from_ok ?_
  simp (disch := omega) [-hset_if, -Bool.decide_and, hset_ne, rg40, rg41, rg42, rg43]
  refine Fin_id ?_
  have hs : ∀ a b : Nat, a ≠ b → ∀ (o : AObj) (G : Heap), hset a o G b = G b := fun a b h o G => hset_ne (fun e => h e.symm) o G
  refine hk _ _ ⟨⟨#[]⟩, 0, .slice (some ⟨new (n + 4), 0, none⟩) 4 4, .slice (some ⟨new (n + 5), 0, none⟩) 1 1, exN (.slice (some ⟨new (n + 1), 0, none⟩) 1 1) (.slice (some ⟨new (n + 2), 0, none⟩) 2 2) (.slice (some ⟨new (n + 3), 0, none⟩) 1 1), exD⟩ _ _ _ (by omega) (fun i hi => by
    simp (disch := omega) only [hset_ne]) ⟨?_, ?_, ?_, ?_, ?_, ?_, ?_⟩ rfl rfl
  · refine SlR.mono (D := (· = n + 4)) ?_ (fun i hi => by omega)
    refine OwR.sl (n := n + 6) (T := 47) ?_
    exact OwR.lit (by omega) (fun _ _ => rfl) (by omega) (by simp (disch := omega) only [hset_ne, hset_same]; rfl) rfl rfl
  · intro d hd
    simp only [exN, List.mem_cons, List.not_mem_nil, or_false] at hd
    rcases hd with rfl | rfl | rfl | rfl
    · refine SlR.mono (D := (· = n + 1)) ?_ (fun i hi => by omega)
      refine OwR.sl (n := n + 6) (T := 54) ?_
      exact OwR.lit (by omega) (fun _ _ => rfl) (by omega) (by simp (disch := omega) only [hset_ne, hset_same]; rfl) rfl rfl
    · refine SlR.mono (D := (· = n + 2)) ?_ (fun i hi => by omega)
      refine OwR.sl (n := n + 6) (T := 54) ?_
      exact OwR.lit (by omega) (fun _ _ => rfl) (by omega) (by simp (disch := omega) only [hset_ne, hset_same]; rfl) rfl rfl
    · refine SlR.mono (D := (· = n + 3)) ?_ (fun i hi => by omega)
      refine OwR.sl (n := n + 6) (T := 54) ?_
      exact OwR.lit (by omega) (fun _ _ => rfl) (by omega) (by simp (disch := omega) only [hset_ne, hset_same]; rfl) rfl rfl
    · exact SlR.nil (by omega)
  · refine SlR.mono (D := (· = n + 5)) ?_ (fun i hi => by omega)
    refine OwR.sl (n := n + 6) (T := 56) ?_
    exact OwR.lit (by omega) (fun _ _ => rfl) (by omega) (by simp (disch := omega) only [hset_ne, hset_same]; rfl) rfl rfl
  · show (4 : Nat) ≤ _; omega
  · intro d hd
    simp only [exN, List.mem_cons, List.not_mem_nil, or_false] at hd
    rcases hd with rfl | rfl | rfl | rfl <;> simp
  · show (1 : Nat) ≤ _; omega
  · intro d hd
    simp only [exN, List.mem_cons, List.not_mem_nil, or_false] at hd
    rcases hd with rfl | rfl | rfl | rfl <;> rfl
theorem ex_of : (ordP [[], [0, 2], [3], []] 4).2 = [0, 3, 2, 1] := by decide
theorem ex_lev : levM [[], [0, 2], [3], []] [0, 3, 2, 1] 4 = [0, 2, 1, 0] := by decide
theorem ex_cyc : cycR [[], [0, 2], [3], []] = [] := by decide
theorem ex_beh : behindP [[2], [0, 2], [3], []] 3 = [0, 1, 2] := by decide
theorem ex_idle : idleP [[2], [0, 2], [3], []] [2] = [0, 1] := by decide
theorem ex_val : validF [[], [0, 2], [3], []] [3, 2, 0, 1] = true := by decide
theorem ex_val2 : validF [[], [0, 2], [3], []] [0, 1, 2, 3] = false := by decide
end Go.Aw.S25
/-
  Chapter 25: awake.
-/
namespace Go.Aw.S25
open Go.RowKit Go.Proofs Go.Aw.Tab
set_option linter.unusedSimpArgs false
set_option linter.unusedVariables false
set_option maxRecDepth 10000
set_option maxHeartbeats 1000000
set_option pp.deepTerms false
set_option pp.deepTerms.threshold 4
set_option pp.maxSteps 1500
attribute [local simp] Lk.cells Nd.cells Dr.cells Pg.val intC boolC
variable {w0 : World} {n : Nat} {H : Heap} {K : Value → Nat → Heap → Prop} {p : Pg} {D E : Nat → Prop}
theorem rg30 : (List.range 3)[0]? = some 0 := by kernel_rfl
theorem rg31 : (List.range 3)[1]? = some 1 := by kernel_rfl
theorem rg32 : (List.range 3)[2]? = some 2 := by kernel_rfl
attribute [local simp] rg20 rg21 rg30 rg31 rg32 rg40 rg41 rg42 rg43
theorem awake_ok (hk : K (.bool true) n H) : ACall ⟨Try.prog, w0⟩ 11 [] K n H := by
  refine ACall.res (fun K' hr => ?_) (by simp) hk
  refine ACall.run Try.func11 rfl Try.ntmps11 Try.results11 (by simp) fun J0 => ?_
  simp (disch := omega) [-hset_if, -Bool.decide_and, hset_ne]
  refine example_ok ?_
  intro m H1 q v0 v1 v2 a1 a2 hq hqn hqd
  have hc : checkP q = 0 := by obtain ⟨nm, per, nv, dv, nds, drs⟩ := q; dsimp only at hqn hqd; subst hqn hqd; exact ex_check _ _ _ _ _ _ _
  have hF : feedsP q.nds false = [[], [0, 2], [3], []] := by rw [hqn]; exact ex_feeds _ _ _
  have hT : feedsP q.nds true = [[2], [0, 2], [3], []] := by rw [hqn]; exact ex_from _ _ _
  have hS : srcs q.nds q.drs = [2] := by rw [hqn, hqd]; exact ex_srcs _ _ _
  have hL : q.nds.length = 4 := by rw [hqn]; rfl
  have hO : ofP q.nds = [0, 3, 2, 1] := by unfold ofP; rw [hF, hL]; exact ex_of
  have hV : levP q.nds = [0, 2, 1, 0] := by unfold levP; rw [hF, hO]; exact ex_lev
  have hib : ∀ d ∈ q.nds, d.lks.length ≤ 1000000 := by
    intro d hd
    rw [hqn] at hd
    simp only [exN, List.mem_cons, List.not_mem_nil, or_false] at hd
    rcases hd with rfl | rfl | rfl | rfl <;> simp
  have hval : ∀ l, l.length = 4 → validP q l = validF [[], [0, 2], [3], []] l := fun l hl => by unfold validP; rw [hc, hF, hL, hl]; rfl
  have hqv : q.val = .agg #[.string q.nm, .int .i64 q.per, q.nv, q.dv] := rfl
  have e1 := hq.ns.one
  have e2 := hq.ds.one
  have e3 := hq.ns.cells
  have e4 := hq.ds.cells
  simp (disch := omega) [-hset_if, -Bool.decide_and, hset_ne, e1, e2, e3, e4]
  have hbx : hset m (.cells [.string q.nm, .int .i64 q.per, q.nv, q.dv] 25 1) H1 m = .cells [.string q.nm, .int .i64 q.per, q.nv, q.dv] 25 1 := hset_same _ _ _
  have hfr : ∀ i, i < m → hset m (.cells [.string q.nm, .int .i64 q.per, q.nv, q.dv] 25 1) H1 i = H1 i := fun i hi => hset_ne (by omega) _ _
  generalize hset m (.cells [.string q.nm, .int .i64 q.per, q.nv, q.dv] 25 1) H1 = H2 at *
  have hq2 := hq.frame (H' := H2) (fun i hi => hfr i hi.2)
  refine OFeeds_ok hq2 (fun i hi => by omega) hib (fun h => absurd hc h) ?_
  intro _ n3 H3 fv b1 b2 b3
  rw [hF] at b3
  have hbx3 : H3 m = .cells [.string q.nm, .int .i64 q.per, q.nv, q.dv] 25 1 := by rw [b2 m (by omega)]; exact hbx
  have hq3 := hq2.frame (H' := H3) (fun i hi => b2 i (by omega))
  simp (disch := omega) [-hset_if, -Bool.decide_and, hset_ne, hbx3, e1, e2, e3, e4]
  refine Of_ok hq3 (fun i hi => by omega) hib (fun h => absurd hc h) (fun _ h => by rw [hO, hL] at h; simp at h) ?_
  intro _ _ n4 H4 ov E4 c1 c2 c3 c4
  rw [hO] at c4
  have hbx4 : H4 m = .cells [.string q.nm, .int .i64 q.per, q.nv, q.dv] 25 1 := by rw [c2 m (by omega)]; exact hbx3
  have hq4 := hq3.frame (H' := H4) (fun i hi => c2 i (by omega))
  simp (disch := omega) [-hset_if, -Bool.decide_and, hset_ne, hbx4, e1, e2, e3, e4]
  refine Cycle_ok hq4 (fun i hi => by omega) hib (fun h => absurd hc h) ?_ (fun _ h => by rw [hF] at h; exact absurd ex_cyc h)
  intro _ _ n5 H5 d1 d2
  have hbx5 : H5 m = .cells [.string q.nm, .int .i64 q.per, q.nv, q.dv] 25 1 := by rw [d2 m (by omega)]; exact hbx4
  have hq5 := hq4.frame (H' := H5) (fun i hi => d2 i (by omega))
  simp (disch := omega) [-hset_if, -Bool.decide_and, hset_ne, hbx5, e1, e2, e3, e4]
  refine Levels_ok hq5 (fun i hi => by omega) hib (fun h => absurd hc h) (fun _ h => by rw [hO, hL] at h; simp at h) ?_
  intro _ _ n6 H6 lv E6 f1 f2 f3 f4
  rw [hV] at f4
  have hbx6 : H6 m = .cells [.string q.nm, .int .i64 q.per, q.nv, q.dv] 25 1 := by rw [f2 m (by omega)]; exact hbx5
  have hq6 := hq5.frame (H' := H6) (fun i hi => f2 i (by omega))
  simp (disch := omega) [-hset_if, -Bool.decide_and, hset_ne, hbx6, e1, e2, e3, e4]
  refine Behind_ok (x := 3) hq6 (fun i hi => by omega) hib (fun h => absurd hc h) (fun _ h => absurd ⟨by omega, by rw [hL]; decide⟩ h) ?_
  intro _ q3 hq33 _ n7 H7 bv E7 g1 g2 g3 g4
  have hq33 : q3 = 3 := by omega
  subst hq33
  rw [hT, ex_beh] at g4
  have hbx7 : H7 m = .cells [.string q.nm, .int .i64 q.per, q.nv, q.dv] 25 1 := by rw [g2 m (by omega)]; exact hbx6
  have hq7 := hq6.frame (H' := H7) (fun i hi => g2 i (by omega))
  simp (disch := omega) [-hset_if, -Bool.decide_and, hset_ne, hbx7, e1, e2, e3, e4]
  refine Idle_ok hq7 (fun i hi => by omega) hib (fun h => absurd hc h) ?_
  intro _ n8 H8 xv E8 h1 h2 h3 h4
  rw [hT, hS, ex_idle] at h4
  have hbx8 : H8 m = .cells [.string q.nm, .int .i64 q.per, q.nv, q.dv] 25 1 := by rw [h2 m (by omega)]; exact hbx7
  have hq8 := hq7.frame (H' := H8) (fun i hi => h2 i (by omega))
  have hf3 : ∀ i, i < n3 → H8 i = H3 i := fun i hi => by rw [h2 i (by omega), g2 i (by omega), f2 i (by omega), d2 i (by omega), c2 i (by omega)]
  have hf4 : ∀ i, i < n4 → H8 i = H4 i := fun i hi => by rw [h2 i (by omega), g2 i (by omega), f2 i (by omega), d2 i (by omega)]
  have hf6 : ∀ i, i < n6 → H8 i = H6 i := fun i hi => by rw [h2 i (by omega), g2 i (by omega)]
  have hf7 : ∀ i, i < n7 → H8 i = H7 i := fun i hi => by rw [h2 i (by omega)]
  have hfn : ∀ i, i < n → H8 i = H i := fun i hi => by rw [hf3 i (by omega), b2 i (by omega), hfr i (by omega), a2 i hi]
  have s3 := b3.frame (H' := H8) (fun i hi => hf3 i hi.2)
  have s4 := c4.sl.frame (H' := H8) (fun i hi => hf4 i (c4.lt i hi))
  have s6 := f4.sl.frame (H' := H8) (fun i hi => hf6 i (f4.lt i hi))
  have s7 := g4.sl.frame (H' := H8) (fun i hi => hf7 i (g4.lt i hi))
  have s8 := h4.sl
  have lt4 := c4.lt
  have lt6 := f4.lt
  have lt7 := g4.lt
  have lt8 := h4.lt
  clear b3 c4 f4 g4 h4 hq2 hq3 hq4 hq5 hq6 hq7
  simp (disch := omega) [-hset_if, -Bool.decide_and, hset_ne, hbx8, e1, e2, e3, e4]
  refine OCheck_ok hq8 (fun i hi => by omega) hib ?_
  rw [hc]
  obtain ⟨rs, hrs, r1, r2⟩ := s3
  have hrl : rs.length = 4 := by have := congrArg List.length hrs; simpa using this
  have hlk : lenK .slice fv = some 4 := by have := r1.lenK; rw [hrl] at this; exact this
  have hr1 : (at_ rs 1).2 = [0, 2] := by
    have := at_map (f := fun r : Value × List Int => r.2) (l := rs) (j := 1) (by omega)
    rw [hrs] at this
    exact this.symm
  have r2a := r2 _ (at_mem (l := rs) (j := 1) (by omega))
  rw [show ((1 : Nat) : Int) = 1 from rfl, hr1] at r2a
  have hix := fun P t b he k => r1.ix (P := P) (t := t) (e := 35) (b := b) he (z := 1) (k := k) (by omega) (by rw [hrl]; omega)
  have hld := r1.load0 shp35 (z := 1) (by omega) (Nat.le_refl _) (by omega) (by rw [hrl]; omega)
  simp (disch := omega) [-hset_if, -Bool.decide_and, hset_ne, hlk, hix _ _ _ elemS30, hld, r2a.cells, r2a.one]
  have l1 : SlR ⟨Try.prog, w0⟩ (hset n8 (.cells [.int .i64 0, .int .i64 2] 3 1) H8) (· = n8) 1 intC (.slice (some ⟨new n8, 0, none⟩) 2 2) [0, 2] := (OwR.lit (n := n8 + 1) (j := n8) (T := 3) (xs := [0, 2]) (by omega) (by simp) (by omega) (hset_same _ _ _) (by simp) rfl).sl
  have k1 : ∀ i, i < n8 → (hset n8 (.cells [.int .i64 0, .int .i64 2] 3 1) H8) i = H8 i := fun i hi => by rw [hset_ne (by omega)]
  generalize hset n8 (.cells [.int .i64 0, .int .i64 2] 3 1) H8 = A1 at *
  refine Same_ok (r2a.frame (fun i hi => k1 i (by omega))) l1 (by simp) ?_
  simp (disch := omega) [-hset_if, -Bool.decide_and, hset_ne]
  have l2 : SlR ⟨Try.prog, w0⟩ (hset (n8 + 1) (.cells [.int .i64 0, .int .i64 3, .int .i64 2, .int .i64 1] 3 1) A1) (· = n8 + 1) 1 intC (.slice (some ⟨new (n8 + 1), 0, none⟩) 4 4) [0, 3, 2, 1] := (OwR.lit (n := n8 + 2) (j := n8 + 1) (T := 3) (xs := [0, 3, 2, 1]) (by omega) (by simp) (by omega) (hset_same _ _ _) (by simp) rfl).sl
  have k2 : ∀ i, i < n8 → (hset (n8 + 1) (.cells [.int .i64 0, .int .i64 3, .int .i64 2, .int .i64 1] 3 1) A1) i = H8 i := fun i hi => by rw [hset_ne (by omega), k1 i hi]
  generalize hset (n8 + 1) (.cells [.int .i64 0, .int .i64 3, .int .i64 2, .int .i64 1] 3 1) A1 = A2 at *
  refine Same_ok (s4.frame (fun i hi => k2 i (by have := lt4 i hi; omega))) l2 (by simp) ?_
  have hb2 : A2 m = .cells [.string q.nm, .int .i64 q.per, q.nv, q.dv] 25 1 := by rw [k2 m (by omega)]; exact hbx8
  simp (disch := omega) [-hset_if, -Bool.decide_and, hset_ne, hb2, e1, e2, e3, e4]
  have l3 : SlR ⟨Try.prog, w0⟩ (hset (n8 + 2) (.cells [.int .i64 3, .int .i64 2, .int .i64 0, .int .i64 1] 3 1) A2) (· = n8 + 2) 1 intC (.slice (some ⟨new (n8 + 2), 0, none⟩) 4 4) [3, 2, 0, 1] := (OwR.lit (n := n8 + 3) (j := n8 + 2) (T := 3) (xs := [3, 2, 0, 1]) (by omega) (by simp) (by omega) (hset_same _ _ _) (by simp) rfl).sl
  have k3 : ∀ i, i < n8 → (hset (n8 + 2) (.cells [.int .i64 3, .int .i64 2, .int .i64 0, .int .i64 1] 3 1) A2) i = H8 i := fun i hi => by rw [hset_ne (by omega), k2 i hi]
  generalize hset (n8 + 2) (.cells [.int .i64 3, .int .i64 2, .int .i64 0, .int .i64 1] 3 1) A2 = A3 at *
  refine Valid_ok (hq8.frame (fun i hi => k3 i (by omega))) (fun i hi => by omega) hib l3 (fun i hi => by omega) (by simp) ?_
  rw [hval _ rfl, ex_val]
  have hb3 : A3 m = .cells [.string q.nm, .int .i64 q.per, q.nv, q.dv] 25 1 := by rw [k3 m (by omega)]; exact hbx8
  simp (disch := omega) [-hset_if, -Bool.decide_and, hset_ne, hb3, e1, e2, e3, e4]
  have l4 : SlR ⟨Try.prog, w0⟩ (hset (n8 + 3) (.cells [.int .i64 0, .int .i64 1, .int .i64 2, .int .i64 3] 3 1) A3) (· = n8 + 3) 1 intC (.slice (some ⟨new (n8 + 3), 0, none⟩) 4 4) [0, 1, 2, 3] := (OwR.lit (n := n8 + 4) (j := n8 + 3) (T := 3) (xs := [0, 1, 2, 3]) (by omega) (by simp) (by omega) (hset_same _ _ _) (by simp) rfl).sl
  have k4 : ∀ i, i < n8 → (hset (n8 + 3) (.cells [.int .i64 0, .int .i64 1, .int .i64 2, .int .i64 3] 3 1) A3) i = H8 i := fun i hi => by rw [hset_ne (by omega), k3 i hi]
  generalize hset (n8 + 3) (.cells [.int .i64 0, .int .i64 1, .int .i64 2, .int .i64 3] 3 1) A3 = A4 at *
  refine Valid_ok (hq8.frame (fun i hi => k4 i (by omega))) (fun i hi => by omega) hib l4 (fun i hi => by omega) (by simp) ?_
  rw [hval _ rfl, ex_val2]
  simp (disch := omega) [-hset_if, -Bool.decide_and, hset_ne]
  have l5 : SlR ⟨Try.prog, w0⟩ (hset (n8 + 4) (.cells [.int .i64 0, .int .i64 2, .int .i64 1, .int .i64 0] 3 1) A4) (· = n8 + 4) 1 intC (.slice (some ⟨new (n8 + 4), 0, none⟩) 4 4) [0, 2, 1, 0] := (OwR.lit (n := n8 + 5) (j := n8 + 4) (T := 3) (xs := [0, 2, 1, 0]) (by omega) (by simp) (by omega) (hset_same _ _ _) (by simp) rfl).sl
  have k5 : ∀ i, i < n8 → (hset (n8 + 4) (.cells [.int .i64 0, .int .i64 2, .int .i64 1, .int .i64 0] 3 1) A4) i = H8 i := fun i hi => by rw [hset_ne (by omega), k4 i hi]
  generalize hset (n8 + 4) (.cells [.int .i64 0, .int .i64 2, .int .i64 1, .int .i64 0] 3 1) A4 = A5 at *
  refine Same_ok (s6.frame (fun i hi => k5 i (by have := lt6 i hi; omega))) l5 (by simp) ?_
  simp (disch := omega) [-hset_if, -Bool.decide_and, hset_ne]
  have l6 : SlR ⟨Try.prog, w0⟩ (hset (n8 + 5) (.cells [.int .i64 0, .int .i64 1, .int .i64 2] 3 1) A5) (· = n8 + 5) 1 intC (.slice (some ⟨new (n8 + 5), 0, none⟩) 3 3) [0, 1, 2] := (OwR.lit (n := n8 + 6) (j := n8 + 5) (T := 3) (xs := [0, 1, 2]) (by omega) (by simp) (by omega) (hset_same _ _ _) (by simp) rfl).sl
  have k6 : ∀ i, i < n8 → (hset (n8 + 5) (.cells [.int .i64 0, .int .i64 1, .int .i64 2] 3 1) A5) i = H8 i := fun i hi => by rw [hset_ne (by omega), k5 i hi]
  generalize hset (n8 + 5) (.cells [.int .i64 0, .int .i64 1, .int .i64 2] 3 1) A5 = A6 at *
  refine Same_ok (s7.frame (fun i hi => k6 i (by have := lt7 i hi; omega))) l6 (by simp) ?_
  simp (disch := omega) [-hset_if, -Bool.decide_and, hset_ne]
  have l7 : SlR ⟨Try.prog, w0⟩ (hset (n8 + 6) (.cells [.int .i64 0, .int .i64 1] 3 1) A6) (· = n8 + 6) 1 intC (.slice (some ⟨new (n8 + 6), 0, none⟩) 2 2) [0, 1] := (OwR.lit (n := n8 + 7) (j := n8 + 6) (T := 3) (xs := [0, 1]) (by omega) (by simp) (by omega) (hset_same _ _ _) (by simp) rfl).sl
  have k7 : ∀ i, i < n8 → (hset (n8 + 6) (.cells [.int .i64 0, .int .i64 1] 3 1) A6) i = H8 i := fun i hi => by rw [hset_ne (by omega), k6 i hi]
  generalize hset (n8 + 6) (.cells [.int .i64 0, .int .i64 1] 3 1) A6 = A7 at *
  refine Same_ok (s8.frame (fun i hi => k7 i (by have := lt8 i hi; omega))) l7 (by simp) ?_
  simp (disch := omega) [-hset_if, -Bool.decide_and, hset_ne]
  exact hr.fin rfl (by omega) (fun i hi => by rw [k7 i (by omega), hfn i hi])
end Go.Aw.S25
/-
  Chapter 25: the laws on feeds and cycles.
-/
namespace Go.Aw.S25
open Go.RowKit Go.Proofs Go.Aw.Tab
set_option linter.unusedSimpArgs false
set_option linter.unusedVariables false
set_option maxRecDepth 10000
set_option maxHeartbeats 1000000
set_option pp.deepTerms false
set_option pp.deepTerms.threshold 4
set_option pp.maxSteps 1500
attribute [local simp] Lk.cells Nd.cells Dr.cells Pg.val intC boolC
variable {w0 : World} {n : Nat} {H : Heap} {K : Value → Nat → Heap → Prop} {p : Pg} {D E : Nat → Prop}
theorem small_ib {m : Int} (h : smallB p m = true) : ∀ d ∈ p.nds, d.lks.length ≤ 1000000 := by
  unfold smallB at h
  rw [decide_eq_true_iff] at h
  intro d hd
  have := h.2.2 d hd
  omega
theorem small_len {m : Int} (h : smallB p m = true) : (p.nds.length : Int) ≤ m := by
  unfold smallB at h
  rw [decide_eq_true_iff] at h
  exact h.1
theorem FsR.lenK {v : Value} {fs : List (List Int)} (h : FsR H w0 D v fs) : lenK .slice v = some (fs.length : Int) := by
  obtain ⟨rs, rfl, h1, h2⟩ := h
  rw [List.length_map]; exact h1.lenK
theorem feedsLaw_ok (hp : PrR H w0 D p) (hD : ∀ i, D i → i < n) (hk : ∀ n' H', n ≤ n' → (∀ i, i < n → H' i = H i) → K (.bool true) n' H') : ACall ⟨Try.prog, w0⟩ 3 [p.val] K n H := by
  refine ACall.run Try.func3 rfl Try.ntmps3 Try.results3 (by simp) fun J0 => ?_
  simp (disch := omega) [-hset_if, -Bool.decide_and, hset_ne]
  try rw [show (Value.agg #[.string p.nm, .int .i64 p.per, p.nv, p.dv]).cells.toList = [.string p.nm, .int .i64 p.per, p.nv, p.dv] from rfl]
  have hbx : hset n (.cells [.string p.nm, .int .i64 p.per, p.nv, p.dv] 25 1) H n = .cells [.string p.nm, .int .i64 p.per, p.nv, p.dv] 25 1 := hset_same _ _ _
  have hfr : ∀ i, i < n → hset n (.cells [.string p.nm, .int .i64 p.per, p.nv, p.dv] 25 1) H i = H i := fun i hi => hset_ne (by omega) _ _
  generalize hset n (.cells [.string p.nm, .int .i64 p.per, p.nv, p.dv] 25 1) H = H1 at *
  have hp1 : PrR H1 w0 D p := hp.frame (fun i hi => hfr i (hD i hi))
  have hnb := hp.nb
  have hD1 : ∀ i, D i → i < n + 1 := fun i hi => by have := hD i hi; omega
  refine awake_ok ?_
  simp (disch := omega) [-hset_if, -Bool.decide_and, hset_ne, hbx]
  refine Small_ok hp1 hD1 ?_
  cases hs : smallB p 70 with
  | false =>
    simp (disch := omega) [-hset_if, -Bool.decide_and, hset_ne, hs]
    refine Fin_id ?_
    exact hk _ _ (by omega) hfr
  | true =>
  have hib := small_ib hs
  have hsl := small_len hs
  simp (disch := omega) [-hset_if, -Bool.decide_and, hset_ne, hs, hbx]
  refine Check_ok hp1 hD1 ?_
  simp (disch := omega) [-hset_if, -Bool.decide_and, hset_ne, hbx]
  by_cases hc : checkP p = 0
  rotate_left
  · refine OFeeds_ok hp1 hD1 hib ?_ (fun h => absurd h hc)
    intro _ n2 H2 a1 a2
    have hp2 := hp1.frame (H' := H2) (fun i hi => a2 i (hD1 i hi))
    have hbx2 : H2 n = .cells [.string p.nm, .int .i64 p.per, p.nv, p.dv] 25 1 := by rw [a2 n (by omega)]; exact hbx
    have hcb : (checkP p != 0) = true := by simpa using hc
    simp (disch := omega) [-hset_if, -Bool.decide_and, hset_ne, hbx2]
    refine OCheck_ok hp2 (fun i hi => by have := hD i hi; omega) hib ?_
    simp (disch := omega) [-hset_if, -Bool.decide_and, hset_ne, hcb]
    refine Fin_id ?_
    exact hk _ _ (by omega) (fun i hi => by rw [a2 i (by omega), hfr i hi])
  · refine OFeeds_ok hp1 hD1 hib (fun h => absurd hc h) ?_
    intro _ n2 H2 v a1 a2 a3
    have hp2 := hp1.frame (H' := H2) (fun i hi => a2 i (hD1 i hi))
    have hbx2 : H2 n = .cells [.string p.nm, .int .i64 p.per, p.nv, p.dv] 25 1 := by rw [a2 n (by omega)]; exact hbx
    have hl := check_len hc
    simp (disch := omega) [-hset_if, -Bool.decide_and, hset_ne, hbx2]
    refine OCheck_ok hp2 (fun i hi => by have := hD i hi; omega) hib ?_
    simp (disch := omega) [-hset_if, -Bool.decide_and, hset_ne, hc, hbx2]
    refine RFeeds_ok hp2 (fun i hi => by have := hD i hi; omega) (by omega) ?_
    intro n3 H3 u b1 b2 b3
    have a4 := a3.frame (H' := H3) (fun i hi => b2 i hi.2)
    have hgo := feeds_ok p.nds false hl
    have hfl := feeds_len p.nds false
    generalize feedsP p.nds false = fs at *
    simp (disch := omega) [-hset_if, -Bool.decide_and, hset_ne, a4.lenK, b3.lenK]
    obtain ⟨rs, hrs, r1, r2⟩ := a4
    obtain ⟨ss, hss, s1, s2⟩ := b3
    have hrl : rs.length = fs.length := by rw [← hrs, List.length_map]
    have hsl2 : ss.length = fs.length := by rw [← hss, List.length_map]
    refine AW.while (σ := Nat) (fun k => fs.length - k) (fun k => [(4, v), (6, u), (7, .int .i64 (k : Int))])
      (fun k n4 H4 => n4 = n3 ∧ H4 = H3 ∧ k ≤ fs.length) 0 ?_ ?_ ?_
    · simp (disch := omega) [-hset_if, -Bool.decide_and, hset_ne]
    · exact ⟨rfl, rfl, by omega⟩
    rintro k _ _ ⟨rfl, rfl, g1⟩
    have hlk := r1.lenK
    rw [hrl] at hlk
    simp (disch := omega) [-hset_if, -Bool.decide_and, hset_ne, hlk]
    refine cif_dec (fun c1 => ?_) (fun c1 => ?_)
    · have e1 : at_ fs (k : Int) = (at_ rs (k : Int)).2 := by rw [← hrs]; exact at_map (by omega)
      have e2 : at_ fs (k : Int) = (at_ ss (k : Int)).2 := by rw [← hss]; exact at_map (by omega)
      have r2k := r2 _ (at_mem (l := rs) (j := k) (by omega))
      have s2k := s2 _ (at_mem (l := ss) (j := k) (by omega))
      rw [← e1] at r2k
      rw [← e2] at s2k
      have hlk2 := hgo.len k c1
      simp (disch := omega) [-hset_if, -Bool.decide_and, hset_ne]
      refine AW.draw (X := ⟨_, 57, _, _⟩) (id := 17) mixed (.take 0 <| .take 1 <| .take 2 <| .take 3 <| .take 4 <| .take 5 <| .take 6 <| .take 7 <| .each 8 [] (.take 9 <| .done) <| .stop) (by kernel_rfl) ?_
      simp (disch := omega) [-hset_if, -Bool.decide_and, hset_ne, r1.ix elemS30, r1.load0 shp35, s1.ix elemS30, s1.load0 shp35, hrl, hsl2]
      refine Same_ok r2k s2k (by omega) ?_
      simp (disch := omega) [-hset_if, -Bool.decide_and, hset_ne]
      exact Next.mk (k + 1) (by first | omega | (dsimp only; omega)) (by simp (disch := omega) [-hset_if, -Bool.decide_and, hset_ne]) ⟨rfl, rfl, by omega⟩
    · simp (disch := omega) [-hset_if, -Bool.decide_and, hset_ne]
      refine Fin_id ?_
      exact hk _ _ (by omega) (fun i hi => by rw [b2 i (by omega), a2 i (by omega), hfr i hi])
theorem cyclesLaw_ok (hp : PrR H w0 D p) (hD : ∀ i, D i → i < n) (hk : ∀ n' H', n ≤ n' → (∀ i, i < n → H' i = H i) → K (.bool true) n' H') : ACall ⟨Try.prog, w0⟩ 5 [p.val] K n H := by
  refine ACall.run Try.func5 rfl Try.ntmps5 Try.results5 (by simp) fun J0 => ?_
  simp (disch := omega) [-hset_if, -Bool.decide_and, hset_ne]
  try rw [show (Value.agg #[.string p.nm, .int .i64 p.per, p.nv, p.dv]).cells.toList = [.string p.nm, .int .i64 p.per, p.nv, p.dv] from rfl]
  have hbx : hset n (.cells [.string p.nm, .int .i64 p.per, p.nv, p.dv] 25 1) H n = .cells [.string p.nm, .int .i64 p.per, p.nv, p.dv] 25 1 := hset_same _ _ _
  have hfr : ∀ i, i < n → hset n (.cells [.string p.nm, .int .i64 p.per, p.nv, p.dv] 25 1) H i = H i := fun i hi => hset_ne (by omega) _ _
  generalize hset n (.cells [.string p.nm, .int .i64 p.per, p.nv, p.dv] 25 1) H = H1 at *
  have hp1 : PrR H1 w0 D p := hp.frame (fun i hi => hfr i (hD i hi))
  have hnb := hp.nb
  have hD1 : ∀ i, D i → i < n + 1 := fun i hi => by have := hD i hi; omega
  refine awake_ok ?_
  simp (disch := omega) [-hset_if, -Bool.decide_and, hset_ne, hbx]
  refine Small_ok hp1 hD1 ?_
  cases hs : smallB p 8 with
  | false =>
    simp (disch := omega) [-hset_if, -Bool.decide_and, hset_ne, hs]
    refine Fin_id ?_
    exact hk _ _ (by omega) hfr
  | true =>
  have hib := small_ib hs
  have hsl := small_len hs
  simp (disch := omega) [-hset_if, -Bool.decide_and, hset_ne, hs, hbx]
  by_cases hc : checkP p = 0
  rotate_left
  · refine Cycle_ok hp1 hD1 hib ?_ (fun h => absurd h hc) (fun h => absurd h hc)
    intro _ n2 H2 a1 a2
    have hp2 := hp1.frame (H' := H2) (fun i hi => a2 i (hD1 i hi))
    have hbx2 : H2 n = .cells [.string p.nm, .int .i64 p.per, p.nv, p.dv] 25 1 := by rw [a2 n (by omega)]; exact hbx
    have hcb : (checkP p != 0) = true := by simpa using hc
    simp (disch := omega) [-hset_if, -Bool.decide_and, hset_ne, hbx2]
    refine Check_ok hp2 (fun i hi => by have := hD i hi; omega) ?_
    simp (disch := omega) [-hset_if, -Bool.decide_and, hset_ne, hcb]
    refine Fin_id ?_
    exact hk _ _ (by omega) (fun i hi => by rw [a2 i (by omega), hfr i hi])
  have hl := check_len hc
  refine Cycle_ok hp1 hD1 hib (fun h => absurd hc h) ?_ ?_
  · intro _ hcy n2 H2 a1 a2
    have hp2 := hp1.frame (H' := H2) (fun i hi => a2 i (hD1 i hi))
    have hbx2 : H2 n = .cells [.string p.nm, .int .i64 p.per, p.nv, p.dv] 25 1 := by rw [a2 n (by omega)]; exact hbx
    simp (disch := omega) [-hset_if, -Bool.decide_and, hset_ne, hbx2]
    refine Check_ok hp2 (fun i hi => by have := hD i hi; omega) ?_
    simp (disch := omega) [-hset_if, -Bool.decide_and, hset_ne, hc, hbx2]
    refine RCycle_ok hp2 (fun i hi => by have := hD i hi; omega) hl ?_
    intro n3 H3 v b1 b2 b3
    rw [hcy] at b3
    simp (disch := omega) [-hset_if, -Bool.decide_and, hset_ne, b3.lenK]
    refine Fin_id ?_
    exact hk _ _ (by omega) (fun i hi => by rw [b2 i (by omega), a2 i (by omega), hfr i hi])
  · intro _ hcy n2 H2 v E2 a1 a2 a3 a4
    have hp2 := hp1.frame (H' := H2) (fun i hi => a2 i (hD1 i hi))
    have hbx2 : H2 n = .cells [.string p.nm, .int .i64 p.per, p.nv, p.dv] 25 1 := by rw [a2 n (by omega)]; exact hbx
    simp (disch := omega) [-hset_if, -Bool.decide_and, hset_ne, hbx2]
    refine Check_ok hp2 (fun i hi => by have := hD i hi; omega) ?_
    simp (disch := omega) [-hset_if, -Bool.decide_and, hset_ne, hc, hbx2]
    refine RCycle_ok hp2 (fun i hi => by have := hD i hi; omega) hl ?_
    intro n3 H3 u b1 b2 b3
    have a5 := a4.sl.frame (H' := H3) (fun i hi => b2 i (a4.lt i hi))
    have hcl : (cycR (feedsP p.nds false)).length ≤ 64 := by
      have := best_len (feedsP p.nds false) (feedsP p.nds false).length
      rw [best_ref, feeds_len] at this
      omega
    have hc1 := List.length_pos_iff.2 hcy
    have hc2 : (((cycR (feedsP p.nds false)).length : Int) == 0) = false := by rw [beq_eq_false_iff_ne]; omega
    simp (disch := omega) [-hset_if, -Bool.decide_and, hset_ne, b3.lenK, hc2]
    refine Same_ok a5 b3 (by omega) ?_
    simp (disch := omega) [-hset_if, -Bool.decide_and, hset_ne]
    refine Fin_id ?_
    exact hk _ _ (by omega) (fun i hi => by rw [b2 i (by omega), a2 i (by omega), hfr i hi])
end Go.Aw.S25
/-
  Chapter 25: the laws on orders and what depends.
-/
namespace Go.Aw.S25
open Go.RowKit Go.Proofs Go.Aw.Tab
set_option linter.unusedSimpArgs false
set_option linter.unusedVariables false
set_option maxRecDepth 10000
set_option maxHeartbeats 1000000
set_option pp.deepTerms false
set_option pp.deepTerms.threshold 4
set_option pp.maxSteps 1500
attribute [local simp] Lk.cells Nd.cells Dr.cells Pg.val intC boolC
variable {w0 : World} {n : Nat} {H : Heap} {K : Value → Nat → Heap → Prop} {p : Pg} {D E : Nat → Prop}
theorem sortsLaw_ok {v : Value} {l : List Int} (hp : PrR H w0 D p) (hD : ∀ i, D i → i < n) (hv : SlR ⟨Try.prog, w0⟩ H E 1 intC v l) (hE : ∀ i, E i → i < n) (hk : ∀ n' H', n ≤ n' → (∀ i, i < n → H' i = H i) → K (.bool true) n' H') : ACall ⟨Try.prog, w0⟩ 4 [p.val, v] K n H := by
  refine ACall.run Try.func4 rfl Try.ntmps4 Try.results4 (by simp) fun J0 => ?_
  simp (disch := omega) [-hset_if, -Bool.decide_and, hset_ne]
  try rw [show (Value.agg #[.string p.nm, .int .i64 p.per, p.nv, p.dv]).cells.toList = [.string p.nm, .int .i64 p.per, p.nv, p.dv] from rfl]
  have hbx : hset n (.cells [.string p.nm, .int .i64 p.per, p.nv, p.dv] 25 1) H n = .cells [.string p.nm, .int .i64 p.per, p.nv, p.dv] 25 1 := hset_same _ _ _
  have hfr : ∀ i, i < n → hset n (.cells [.string p.nm, .int .i64 p.per, p.nv, p.dv] 25 1) H i = H i := fun i hi => hset_ne (by omega) _ _
  generalize hset n (.cells [.string p.nm, .int .i64 p.per, p.nv, p.dv] 25 1) H = H1 at *
  have hp1 : PrR H1 w0 D p := hp.frame (fun i hi => hfr i (hD i hi))
  have hnb := hp.nb
  have hD1 : ∀ i, D i → i < n + 1 := fun i hi => by have := hD i hi; omega
  refine awake_ok ?_
  simp (disch := omega) [-hset_if, -Bool.decide_and, hset_ne, hbx]
  refine Small_ok hp1 hD1 ?_
  cases hs : smallB p 16 with
  | false =>
    simp (disch := omega) [-hset_if, -Bool.decide_and, hset_ne, hs]
    refine Fin_id ?_
    exact hk _ _ (by omega) hfr
  | true =>
  have hib := small_ib hs
  have hsl := small_len hs
  simp (disch := omega) [-hset_if, -Bool.decide_and, hset_ne, hs, hbx]
  have hv1 : SlR ⟨Try.prog, w0⟩ H1 E 1 intC v l := hv.frame (fun i hi => hfr i (hE i hi))
  have hE1 : ∀ i, E i → i < n + 1 := fun i hi => by have := hE i hi; omega
  simp (disch := omega) [-hset_if, -Bool.decide_and, hset_ne, hv1.lenK]
  by_cases c0 : 20 < l.length
  · have c0' : (20 : Int) < (l.length : Int) := by omega
    simp (disch := omega) [-hset_if, -Bool.decide_and, hset_ne, c0, c0']
    refine Fin_id ?_
    exact hk _ _ (by omega) hfr
  have c0' : ¬ (20 : Int) < (l.length : Int) := by omega
  simp (disch := omega) [-hset_if, -Bool.decide_and, hset_ne, c0, c0']
  refine AW.draw (X := ⟨_, 88, _, _⟩) (id := 5) mixed (.take 0 <| .take 1 <| .take 3 <| .take 4 <| .each 2 [3, 4] (.each 5 [] (.take 6 <| .done) <| .stop) <| .stop) (by kernel_rfl) ?_
  simp (disch := omega) [-hset_if, -Bool.decide_and, hset_ne, hbx]
  refine Valid_ok hp1 hD1 hib hv1 hE1 (by omega) ?_
  simp (disch := omega) [-hset_if, -Bool.decide_and, hset_ne, hbx]
  refine RValid_ok hp1 hD1 hv1 hE1 (by omega) ?_
  simp (disch := omega) [-hset_if, -Bool.decide_and, hset_ne, hbx]
  by_cases hc : checkP p = 0
  rotate_left
  · have hcb : (checkP p != 0) = true := by simpa using hc
    have hcb2 : (checkP p == 0) = false := by simpa using hc
    refine Of_ok hp1 hD1 hib ?_ (fun h => absurd h hc) (fun h => absurd h hc)
    intro _ n2 H2 a1 a2
    have hp2 := hp1.frame (H' := H2) (fun i hi => a2 i (hD1 i hi))
    have hbx2 : H2 n = .cells [.string p.nm, .int .i64 p.per, p.nv, p.dv] 25 1 := by rw [a2 n (by omega)]; exact hbx
    simp (disch := omega) [-hset_if, -Bool.decide_and, hset_ne, hbx2]
    refine Levels_ok hp2 (fun i hi => by have := hD i hi; omega) hib ?_ (fun h => absurd h hc) (fun h => absurd h hc)
    intro _ n3 H3 b1 b2
    have hp3 := hp2.frame (H' := H3) (fun i hi => b2 i (by have := hD i hi; omega))
    have hbx3 : H3 n = .cells [.string p.nm, .int .i64 p.per, p.nv, p.dv] 25 1 := by rw [b2 n (by omega)]; exact hbx2
    simp (disch := omega) [-hset_if, -Bool.decide_and, hset_ne, hbx3]
    refine Check_ok hp3 (fun i hi => by have := hD i hi; omega) ?_
    simp (disch := omega) [-hset_if, -Bool.decide_and, hset_ne]
    refine AW.draw (X := ⟨_, 88, _, _⟩) (id := 10) mixed (.take 0 <| .take 1 <| .take 2 <| .take 3 <| .take 6 <| .take 7 <| .take 8 <| .each 4 [6, 7, 8] (.take 5 <| .take 9 <| .take 10 <| .done) <| .stop) (by kernel_rfl) ?_
    simp (disch := omega) [-hset_if, -Bool.decide_and, hset_ne, hcb, hcb2]
    refine Fin_id ?_
    exact hk _ _ (by omega) (fun i hi => by rw [b2 i (by omega), a2 i (by omega), hfr i hi])
  have hl := check_len hc
  by_cases ho : (ofP p.nds).length < p.nds.length
  · refine Of_ok hp1 hD1 hib (fun h => absurd hc h) ?_ (fun _ h => by omega)
    intro _ _ n2 H2 a1 a2
    have hp2 := hp1.frame (H' := H2) (fun i hi => a2 i (hD1 i hi))
    have hbx2 : H2 n = .cells [.string p.nm, .int .i64 p.per, p.nv, p.dv] 25 1 := by rw [a2 n (by omega)]; exact hbx
    simp (disch := omega) [-hset_if, -Bool.decide_and, hset_ne, hbx2]
    refine Levels_ok hp2 (fun i hi => by have := hD i hi; omega) hib (fun h => absurd hc h) ?_ (fun _ h => by omega)
    intro _ _ n3 H3 b1 b2
    have hp3 := hp2.frame (H' := H3) (fun i hi => b2 i (by have := hD i hi; omega))
    have hbx3 : H3 n = .cells [.string p.nm, .int .i64 p.per, p.nv, p.dv] 25 1 := by rw [b2 n (by omega)]; exact hbx2
    simp (disch := omega) [-hset_if, -Bool.decide_and, hset_ne, hbx3]
    refine Check_ok hp3 (fun i hi => by have := hD i hi; omega) ?_
    simp (disch := omega) [-hset_if, -Bool.decide_and, hset_ne, hc]
    refine AW.draw (X := ⟨_, 88, _, _⟩) (id := 10) mixed (.take 0 <| .take 1 <| .take 2 <| .take 3 <| .take 6 <| .take 7 <| .take 8 <| .each 4 [6, 7, 8] (.take 5 <| .take 9 <| .take 10 <| .done) <| .stop) (by kernel_rfl) ?_
    simp (disch := omega) [-hset_if, -Bool.decide_and, hset_ne, hbx3, hp3.ns.lenK]
    refine ROf_ok hp3 (fun i hi => by have := hD i hi; omega) hl ?_
    intro n4 H4 v4 E4 d1 d2 d3 d4
    have hbx4 : H4 n = .cells [.string p.nm, .int .i64 p.per, p.nv, p.dv] 25 1 := by rw [d2 n (by omega)]; exact hbx3
    simp (disch := omega) [-hset_if, -Bool.decide_and, hset_ne, hbx4, hp3.ns.lenK, d4.sl.lenK, ho]
    refine Fin_id ?_
    exact hk _ _ (by omega) (fun i hi => by rw [d2 i (by omega), b2 i (by omega), a2 i (by omega), hfr i hi])
  · have hoe : (ofP p.nds).length = p.nds.length := by have := ofP_len p.nds; omega
    refine Of_ok hp1 hD1 hib (fun h => absurd hc h) (fun _ h => absurd h ho) ?_
    intro _ _ n2 H2 ov E2 a1 a2 a3 a4
    have hp2 := hp1.frame (H' := H2) (fun i hi => a2 i (hD1 i hi))
    have hbx2 : H2 n = .cells [.string p.nm, .int .i64 p.per, p.nv, p.dv] 25 1 := by rw [a2 n (by omega)]; exact hbx
    simp (disch := omega) [-hset_if, -Bool.decide_and, hset_ne, hbx2]
    refine Levels_ok hp2 (fun i hi => by have := hD i hi; omega) hib (fun h => absurd hc h) (fun _ h => absurd h ho) ?_
    intro _ _ n3 H3 lv E3 b1 b2 b3 b4
    have hp3 := hp2.frame (H' := H3) (fun i hi => b2 i (by have := hD i hi; omega))
    have hbx3 : H3 n = .cells [.string p.nm, .int .i64 p.per, p.nv, p.dv] 25 1 := by rw [b2 n (by omega)]; exact hbx2
    simp (disch := omega) [-hset_if, -Bool.decide_and, hset_ne, hbx3]
    refine Check_ok hp3 (fun i hi => by have := hD i hi; omega) ?_
    simp (disch := omega) [-hset_if, -Bool.decide_and, hset_ne, hc]
    refine AW.draw (X := ⟨_, 88, _, _⟩) (id := 10) mixed (.take 0 <| .take 1 <| .take 2 <| .take 3 <| .take 6 <| .take 7 <| .take 8 <| .each 4 [6, 7, 8] (.take 5 <| .take 9 <| .take 10 <| .done) <| .stop) (by kernel_rfl) ?_
    simp (disch := omega) [-hset_if, -Bool.decide_and, hset_ne, hbx3, hp3.ns.lenK]
    refine ROf_ok hp3 (fun i hi => by have := hD i hi; omega) hl ?_
    intro n4 H4 v4 E4 d1 d2 d3 d4
    have hp4 := hp3.frame (H' := H4) (fun i hi => d2 i (by have := hD i hi; omega))
    have hbx4 : H4 n = .cells [.string p.nm, .int .i64 p.per, p.nv, p.dv] 25 1 := by rw [d2 n (by omega)]; exact hbx3
    simp (disch := omega) [-hset_if, -Bool.decide_and, hset_ne, hbx4, hp3.ns.lenK, d4.sl.lenK, ho]
    refine ROf_ok hp4 (fun i hi => by have := hD i hi; omega) hl ?_
    intro n5 H5 v5 E5 e1 e2 e3 e4
    have hp5 := hp4.frame (H' := H5) (fun i hi => e2 i (by have := hD i hi; omega))
    have hbx5 : H5 n = .cells [.string p.nm, .int .i64 p.per, p.nv, p.dv] 25 1 := by rw [e2 n (by omega)]; exact hbx4
    have a5 := a4.sl.frame (H' := H5) (fun i hi => by have := a4.lt i hi; rw [e2 i (by omega), d2 i (by omega), b2 i (by omega)])
    simp (disch := omega) [-hset_if, -Bool.decide_and, hset_ne, hbx5]
    refine Same_ok a5 e4.sl (by omega) ?_
    simp (disch := omega) [-hset_if, -Bool.decide_and, hset_ne, hbx5]
    refine RLevels_ok hp5 (fun i hi => by have := hD i hi; omega) hl hoe ?_
    intro n6 H6 v6 E6 f1 f2 f3 f4
    have b5 := b4.sl.frame (H' := H6) (fun i hi => by have := b4.lt i hi; rw [f2 i (by omega), e2 i (by omega), d2 i (by omega)])
    have hll : (levP p.nds).length ≤ 64 := by unfold levP; rw [levM_len, feeds_len]; omega
    simp (disch := omega) [-hset_if, -Bool.decide_and, hset_ne]
    refine Same_ok b5 f4.sl (by omega) ?_
    simp (disch := omega) [-hset_if, -Bool.decide_and, hset_ne]
    refine Fin_id ?_
    exact hk _ _ (by omega) (fun i hi => by rw [f2 i (by omega), e2 i (by omega), d2 i (by omega), b2 i (by omega), a2 i (by omega), hfr i hi])
theorem dependsLaw_ok {x : Int} (hp : PrR H w0 D p) (hD : ∀ i, D i → i < n) (hk : ∀ n' H', n ≤ n' → (∀ i, i < n → H' i = H i) → K (.bool true) n' H') : ACall ⟨Try.prog, w0⟩ 6 [p.val, .int .i64 x] K n H := by
  refine ACall.run Try.func6 rfl Try.ntmps6 Try.results6 (by simp) fun J0 => ?_
  simp (disch := omega) [-hset_if, -Bool.decide_and, hset_ne]
  try rw [show (Value.agg #[.string p.nm, .int .i64 p.per, p.nv, p.dv]).cells.toList = [.string p.nm, .int .i64 p.per, p.nv, p.dv] from rfl]
  have hbx : hset n (.cells [.string p.nm, .int .i64 p.per, p.nv, p.dv] 25 1) H n = .cells [.string p.nm, .int .i64 p.per, p.nv, p.dv] 25 1 := hset_same _ _ _
  have hfr : ∀ i, i < n → hset n (.cells [.string p.nm, .int .i64 p.per, p.nv, p.dv] 25 1) H i = H i := fun i hi => hset_ne (by omega) _ _
  generalize hset n (.cells [.string p.nm, .int .i64 p.per, p.nv, p.dv] 25 1) H = H1 at *
  have hp1 : PrR H1 w0 D p := hp.frame (fun i hi => hfr i (hD i hi))
  have hnb := hp.nb
  have hD1 : ∀ i, D i → i < n + 1 := fun i hi => by have := hD i hi; omega
  refine awake_ok ?_
  simp (disch := omega) [-hset_if, -Bool.decide_and, hset_ne, hbx]
  refine Small_ok hp1 hD1 ?_
  cases hs : smallB p 12 with
  | false =>
    simp (disch := omega) [-hset_if, -Bool.decide_and, hset_ne, hs]
    refine Fin_id ?_
    exact hk _ _ (by omega) hfr
  | true =>
  have hib := small_ib hs
  have hsl := small_len hs
  simp (disch := omega) [-hset_if, -Bool.decide_and, hset_ne, hs, hbx]
  refine Check_ok hp1 hD1 ?_
  simp (disch := omega) [-hset_if, -Bool.decide_and, hset_ne, hbx]
  by_cases hc : checkP p = 0
  rotate_left
  · have hcb : (checkP p != 0) = true := by simpa using hc
    have hcb2 : (checkP p == 0) = false := by simpa using hc
    refine Behind_ok hp1 hD1 hib ?_ (fun h => absurd h hc) (fun h => absurd h hc)
    intro _ n2 H2 a1 a2
    have hp2 := hp1.frame (H' := H2) (fun i hi => a2 i (hD1 i hi))
    have hbx2 : H2 n = .cells [.string p.nm, .int .i64 p.per, p.nv, p.dv] 25 1 := by rw [a2 n (by omega)]; exact hbx
    simp (disch := omega) [-hset_if, -Bool.decide_and, hset_ne, hbx2]
    refine Idle_ok hp2 (fun i hi => by have := hD i hi; omega) hib ?_ (fun h => absurd h hc)
    intro _ n3 H3 b1 b2
    have hbx3 : H3 n = .cells [.string p.nm, .int .i64 p.per, p.nv, p.dv] 25 1 := by rw [b2 n (by omega)]; exact hbx2
    simp (disch := omega) [-hset_if, -Bool.decide_and, hset_ne, hcb, hcb2, hbx3]
    refine Fin_id ?_
    exact hk _ _ (by omega) (fun i hi => by rw [b2 i (by omega), a2 i (by omega), hfr i hi])
  have hl := check_len hc
  have hil : (idleP (feedsP p.nds true) (srcs p.nds p.drs)).length ≤ 64 := by
    have h2 := feeds_len p.nds true
    exact Nat.le_trans (selP_len (fun i => !(usedB (feedsP p.nds true) (srcs p.nds p.drs) i)) (feedsP p.nds true).length) (by omega)
  by_cases hx : 0 ≤ x ∧ x < p.nds.length
  rotate_left
  · refine Behind_ok hp1 hD1 hib (fun h => absurd hc h) ?_ (fun _ q h1 h2 => absurd ⟨by omega, by omega⟩ hx)
    intro _ _ n2 H2 a1 a2
    have hp2 := hp1.frame (H' := H2) (fun i hi => a2 i (hD1 i hi))
    have hbx2 : H2 n = .cells [.string p.nm, .int .i64 p.per, p.nv, p.dv] 25 1 := by rw [a2 n (by omega)]; exact hbx
    simp (disch := omega) [-hset_if, -Bool.decide_and, hset_ne, hbx2]
    refine Idle_ok hp2 (fun i hi => by have := hD i hi; omega) hib (fun h => absurd hc h) ?_
    intro _ n3 H3 v3 E3 b1 b2 b3 b4
    have hp3 := hp2.frame (H' := H3) (fun i hi => b2 i (by have := hD i hi; omega))
    have hbx3 : H3 n = .cells [.string p.nm, .int .i64 p.per, p.nv, p.dv] 25 1 := by rw [b2 n (by omega)]; exact hbx2
    simp (disch := omega) [-hset_if, -Bool.decide_and, hset_ne, hc, hbx3]
    refine RIdle_ok hp3 (fun i hi => by have := hD i hi; omega) hc ?_
    intro n4 H4 v4 E4 d1 d2 d3 d4
    have b5 := b4.sl.frame (H' := H4) (fun i hi => by have := b4.lt i hi; rw [d2 i (by omega)])
    have hbx4 : H4 n = .cells [.string p.nm, .int .i64 p.per, p.nv, p.dv] 25 1 := by rw [d2 n (by omega)]; exact hbx3
    simp (disch := omega) [-hset_if, -Bool.decide_and, hset_ne]
    refine Same_ok b5 d4.sl (by omega) ?_
    by_cases c1 : x < 0
    · simp (disch := omega) [-hset_if, -Bool.decide_and, hset_ne, hc, c1, hbx4, hp3.ns.lenK]
      refine Fin_id ?_
      exact hk _ _ (by omega) (fun i hi => by rw [d2 i (by omega), b2 i (by omega), a2 i (by omega), hfr i hi])
    · have c2 : (p.nds.length : Int) ≤ x := by omega
      simp (disch := omega) [-hset_if, -Bool.decide_and, hset_ne, hc, c1, c2, hbx4, hp3.ns.lenK]
      refine Fin_id ?_
      exact hk _ _ (by omega) (fun i hi => by rw [d2 i (by omega), b2 i (by omega), a2 i (by omega), hfr i hi])
  obtain ⟨q, rfl⟩ := at_drop0 (bs := []) hx.1
  have hq : q < p.nds.length := by omega
  refine Behind_ok hp1 hD1 hib (fun h => absurd hc h) (fun _ h => absurd hx h) ?_
  intro _ q2 hq2 hq3 n2 H2 v2 E2 a1 a2 a3 a4
  have hq2 : q2 = q := by omega
  subst hq2
  have hp2 := hp1.frame (H' := H2) (fun i hi => a2 i (hD1 i hi))
  have hbx2 : H2 n = .cells [.string p.nm, .int .i64 p.per, p.nv, p.dv] 25 1 := by rw [a2 n (by omega)]; exact hbx
  simp (disch := omega) [-hset_if, -Bool.decide_and, hset_ne, hbx2]
  refine Idle_ok hp2 (fun i hi => by have := hD i hi; omega) hib (fun h => absurd hc h) ?_
  intro _ n3 H3 v3 E3 b1 b2 b3 b4
  have hp3 := hp2.frame (H' := H3) (fun i hi => b2 i (by have := hD i hi; omega))
  have hbx3 : H3 n = .cells [.string p.nm, .int .i64 p.per, p.nv, p.dv] 25 1 := by rw [b2 n (by omega)]; exact hbx2
  simp (disch := omega) [-hset_if, -Bool.decide_and, hset_ne, hc, hbx3]
  refine RIdle_ok hp3 (fun i hi => by have := hD i hi; omega) hc ?_
  intro n4 H4 v4 E4 d1 d2 d3 d4
  have b5 := b4.sl.frame (H' := H4) (fun i hi => by have := b4.lt i hi; rw [d2 i (by omega)])
  have hp4 := hp3.frame (H' := H4) (fun i hi => d2 i (by have := hD i hi; omega))
  have hbx4 : H4 n = .cells [.string p.nm, .int .i64 p.per, p.nv, p.dv] 25 1 := by rw [d2 n (by omega)]; exact hbx3
  simp (disch := omega) [-hset_if, -Bool.decide_and, hset_ne]
  refine Same_ok b5 d4.sl (by omega) ?_
  have c1 : ¬ (q2 : Int) < 0 := by omega
  have c2 : ¬ (p.nds.length : Int) ≤ (q2 : Int) := by omega
  have c3 : ¬ p.nds.length ≤ q2 := by omega
  simp (disch := omega) [-hset_if, -Bool.decide_and, hset_ne, hc, c1, c2, c3, hbx4, hp4.ns.lenK]
  refine RBehind_ok hp4 (fun i hi => by have := hD i hi; omega) hl hq ?_
  intro n5 H5 v5 E5 e1 e2 e3 e4
  have a5 := a4.sl.frame (H' := H5) (fun i hi => by have := a4.lt i hi; rw [e2 i (by omega), d2 i (by omega), b2 i (by omega)])
  have hbl : (behindP (feedsP p.nds true) q2).length ≤ 64 := by
    have h2 := feeds_len p.nds true
    exact Nat.le_trans (selP_len _ (feedsP p.nds true).length) (by omega)
  simp (disch := omega) [-hset_if, -Bool.decide_and, hset_ne]
  refine Same_ok a5 e4.sl (by omega) ?_
  simp (disch := omega) [-hset_if, -Bool.decide_and, hset_ne]
  refine Fin_id ?_
  exact hk _ _ (by omega) (fun i hi => by rw [e2 i (by omega), d2 i (by omega), b2 i (by omega), a2 i (by omega), hfr i hi])
end Go.Aw.S25
