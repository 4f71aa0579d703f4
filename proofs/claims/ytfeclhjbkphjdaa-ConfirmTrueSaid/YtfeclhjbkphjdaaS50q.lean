/-
  Chapter 50: the law of the clients.
-/
import Derived.Test.YtfeclhjbkphjdaaS50p
namespace Go.Aw.S50
open Go.RowKit Go.Proofs Go.Aw.Tab
set_option linter.unusedSimpArgs false
set_option linter.unusedVariables false
set_option maxRecDepth 10000
set_option maxHeartbeats 2000000
set_option pp.deepTerms false
set_option pp.deepTerms.threshold 4
set_option pp.maxSteps 1500
variable {w0 : World} {n : Nat} {H : Heap} {K : Value → Nat → Heap → Prop} {pv : Value} {D0 : Nat → Prop} {l : List Opn}
attribute [local simp] Ans.cells Ask.cells Opn.cells Wt.cells Qt.cells intC
/-- The sizes of a client's lists. -/
structure COk (c : Cl) (k : Nat) : Prop where
  len : c.opn.length + c.done.length ≤ k
  most : c.opn.length ≤ 16
  sent : 0 ≤ c.sent ∧ c.sent ≤ k
  nc : ncOk c.pat c.ret
  wt : ∀ w ∈ c.opn, 0 ≤ w.wait ∧ w.wait < c.pat ∧ 0 ≤ w.rep ∧ w.rep ≤ c.ret
theorem COk.up {c : Cl} {k : Nat} (h : COk c k) : COk c (k + 1) := ⟨by have := h.len; omega, h.most, by have := h.sent; omega, h.nc, h.wt⟩
theorem COk.new {p r : Int} (h : ncOk p r) : COk ⟨p, r, 0, 0, [], []⟩ 0 := ⟨by simp, by simp, by simp, h, by simp⟩
theorem COk.send {c : Cl} {k : Nat} (h : COk c k) (data : ByteArray) : COk (sendP c data).2 (k + 1) := by
  unfold sendP
  split
  · exact h.up
  split
  · exact h.up
  rename_i h1 h2
  have hn := h.nc
  unfold ncOk at hn
  refine ⟨by have := h.len; simp; omega, by simp; omega, by have := h.sent; dsimp only; omega, h.nc, fun w hw => ?_⟩
  rcases List.mem_append.1 hw with hw | hw
  · exact h.wt w hw
  · simp only [List.mem_cons, List.not_mem_nil, or_false] at hw
    subst hw
    simp only [newW]; omega
theorem COk.endC {c : Cl} {k : Nat} (h : COk c k) {j : Nat} (hj : j < c.opn.length) (a : Ans) (b : Int) : COk (endC { c with boot := b } (c.opn.eraseIdx j) a) (k + 1) := by
  have hl : (c.opn.eraseIdx j).length = c.opn.length - 1 := List.length_eraseIdx_of_lt hj
  refine ⟨?_, ?_, by have := h.sent; dsimp only [S50.endC]; omega, h.nc, fun w hw => h.wt w (List.mem_of_mem_eraseIdx hw)⟩
  · have := h.len
    simp only [S50.endC, hl, List.length_append, List.length_cons, List.length_nil]; omega
  · have := h.most
    simp only [S50.endC, hl]; omega
theorem COk.hand {c : Cl} {k : Nat} (h : COk c k) (a : Ans) : COk (handC c a).2 (k + 1) := by
  unfold handC
  dsimp only
  split
  · exact h.up
  rename_i hi
  obtain ⟨j, hj⟩ : ∃ j : Nat, fidx (fun w : Wt => w.inv == a.inv) c.opn = (j : Int) := ⟨(fidx (fun w : Wt => w.inv == a.inv) c.opn).toNat, by omega⟩
  obtain ⟨hjl, -, -⟩ := fidx_spec hj
  rw [hj, Int.toNat_natCast]
  split
  · split
    · exact h.endC hjl a c.boot
    · exact h.up
  split
  · exact h.up
  split
  · exact h.endC hjl a _
  · have hn := h.nc
    unfold ncOk at hn
    refine ⟨by have := h.len; simp; omega, by have := h.most; simp; omega, by have := h.sent; dsimp only; omega, h.nc, fun w hw => ?_⟩
    rcases List.mem_or_eq_of_mem_set hw with hw | hw
    · exact h.wt w hw
    · have := h.wt _ (at_mem hjl)
      subst hw
      dsimp only; omega
theorem tk_len (c : Cl) : ∀ l : List Wt, (tkW c l).length + (tkD c l).length = l.length
  | [] => rfl
  | w :: l => by
    have ih := tk_len c l
    have h1 : (tk1 c.pat c.ret w).1.toList.length + (tk1 c.pat c.ret w).2.2.toList.length = 1 := by
      unfold tk1
      split
      · simp
      · split <;> simp
    have e1 : tkW c (w :: l) = (tk1 c.pat c.ret w).1.toList ++ tkW c l := by unfold tkW; rw [List.filterMap_cons]; split <;> simp_all
    have e2 : tkD c (w :: l) = (tk1 c.pat c.ret w).2.2.toList ++ tkD c l := by unfold tkD; rw [List.filterMap_cons]; split <;> simp_all
    rw [e1, e2, List.length_append, List.length_append, List.length_cons]
    omega
theorem COk.tick {c : Cl} {k : Nat} (h : COk c k) : COk (tickP c).2 (k + 1) := by
  have hl := tk_len c c.opn
  have hn := h.nc
  unfold ncOk at hn
  refine ⟨by have := h.len; simp only [tickP, List.length_append]; omega, by have := h.most; simp only [tickP]; omega, by have := h.sent; simp only [tickP]; omega, h.nc, fun w hw => ?_⟩
  simp only [tickP, tkW, List.mem_filterMap] at hw
  obtain ⟨w1, hw1, e⟩ := hw
  have := h.wt w1 hw1
  unfold tk1 at e
  split at e
  · simp only [Option.some.injEq] at e
    subst e
    simp only [tickP]; omega
  · split at e
    · cases e
    · simp only [Option.some.injEq] at e
      subst e
      simp only [tickP]; omega
/-- Both clients, apart. -/
structure CB (H : Heap) (w0 : World) (n0 n C T : Nat) (c d : Cl) (D : Nat → Prop) (P : List (Wt × Nat)) (v u : Value) (E F DT : Nat → Prop) (v' u' : Value) (E' F' : Nat → Prop) : Prop where
  cli : CliR H w0 n C D c P v u E F
  rcl : RclR H w0 n T DT d v' u' E' F'
  ap : ∀ i, D i → ¬ DT i
  co : ∀ i, D i → n0 ≤ i
  ro : ∀ i, DT i → n0 ≤ i
  le : n0 ≤ n
section
variable {n0 C T : Nat} {D E F DT E' F' D2 E2 F2 : Nat → Prop} {c d c' d' : Cl} {P P2 : List (Wt × Nat)} {v u v' u' v2 u2 : Value} {n' : Nat} {H' : Heap}
theorem CB.lt (g : CB H w0 n0 n C T c d D P v u E F DT v' u' E' F') {i : Nat} (hi : D i ∨ DT i) : i < n := by
  rcases hi with hi | hi
  · exact g.cli.lt hi
  · exact g.rcl.lt hi
theorem CB.fr (g : CB H w0 n0 n C T c d D P v u E F DT v' u' E' F') (h1 : n ≤ n') (h2 : ∀ i, D i ∨ DT i → H' i = H i) : CB H' w0 n0 n' C T c d D P v u E F DT v' u' E' F' :=
  ⟨g.cli.frame h1 (fun i hi => h2 i (.inl hi)), g.rcl.frame h1 (fun i hi => h2 i (.inr hi)), g.ap, g.co, g.ro, by have := g.le; omega⟩
theorem CB.al (g : CB H w0 n0 n C T c d D P v u E F DT v' u' E' F') (h1 : n ≤ n') (h2 : ∀ i, i < n → H' i = H i) : CB H' w0 n0 n' C T c d D P v u E F DT v' u' E' F' :=
  g.fr h1 (fun i hi => h2 i (g.lt hi))
theorem CB.cl (g : CB H w0 n0 n C T c d D P v u E F DT v' u' E' F') (h1 : n ≤ n') (h2 : ∀ i, i < n → ¬ D i → H' i = H i) (h3 : ∀ i, D2 i → D i ∨ n ≤ i) (h4 : CliR H' w0 n' C D2 c' P2 v2 u2 E2 F2) : CB H' w0 n0 n' C T c' d D2 P2 v2 u2 E2 F2 DT v' u' E' F' := by
  have hle := g.le
  refine ⟨h4, g.rcl.frame h1 (fun i hi => h2 i (g.lt (.inr hi)) (fun y => g.ap i y hi)), fun i hi y => ?_, fun i hi => ?_, g.ro, by omega⟩
  · rcases h3 i hi with z | z
    · exact g.ap i z y
    · have := g.lt (.inr y); omega
  · rcases h3 i hi with z | z
    · exact g.co i z
    · omega
theorem CB.rc (g : CB H w0 n0 n C T c d D P v u E F DT v' u' E' F') (h1 : n ≤ n') (h2 : ∀ i, i < n → ¬ DT i → H' i = H i) (h3 : ∀ i, D2 i → DT i ∨ n ≤ i) (h4 : RclR H' w0 n' T D2 d' v2 u2 E2 F2) : CB H' w0 n0 n' C T c d' D P v u E F D2 v2 u2 E2 F2 := by
  have hle := g.le
  refine ⟨g.cli.frame h1 (fun i hi => h2 i (g.lt (.inl hi)) (g.ap i hi)), h4, fun i hi y => ?_, g.co, fun i hi => ?_, by omega⟩
  · rcases h3 i y with z | z
    · exact g.ap i hi z
    · have := g.lt (.inl hi); omega
  · rcases h3 i hi with z | z
    · exact g.ro i z
    · omega
end
structure CLI (H : Heap) (w0 : World) (n n1 C T j : Nat) : Prop where
  ex : ∃ c D P v u E F DT v' u' E' F', CB H w0 n n1 C T c c D P v u E F DT v' u' E' F' ∧ COk c j
theorem Clients_ok {b m : Int} (hs : SlR ⟨Try.prog, w0⟩ H D0 11 Opn.cells pv l) (hD : ∀ i, D0 i → i < n) (hr : Res n H K (.bool true)) : ACall ⟨Try.prog, w0⟩ 5 [.int .i64 b, .int .i64 m, pv] K n H := by
  refine ACall.run Try.func5 rfl Try.ntmps5 Try.results5 (by simp) fun J0 => ?_
  simp (disch := omega) [-hset_if, -Bool.decide_and, hset_ne]
  refine awake_ok ?_
  simp (disch := omega) [-hset_if, -Bool.decide_and, hset_ne]
  refine small_ok hs ?_
  simp (disch := omega) [-hset_if, -Bool.decide_and, hset_ne]
  refine cif_var (fun h0 => ?_) (fun h0 => ?_)
  rotate_left
  · simp (disch := omega) [-hset_if, -Bool.decide_and, hset_ne]
    exact hr.fin rfl (by omega) (fun i hi => by simp (disch := omega) only [hset_ne])
  have hl80 : l.length ≤ 80 := by unfold smallB at h0; simp at h0; omega
  simp (disch := omega) [-hset_if, -Bool.decide_and, hset_ne]
  refine NewClient_ok (fun hns n1 H1 a1 a2 => ?_) (fun hns n1 H1 C a1 a2 a3 hcl => ?_)
  · simp (disch := omega) [-hset_if, -Bool.decide_and, hset_ne]
    refine RNewClient_ok (fun _ n2 H2 b1 b2 => ?_) (fun h => absurd h hns)
    simp (disch := omega) [-hset_if, -Bool.decide_and, hset_ne]
    exact hr.fin rfl (by omega) (fun i hi => by rw [b2 i (by omega), a2 i hi])
  simp (disch := omega) [-hset_if, -Bool.decide_and, hset_ne]
  refine RNewClient_ok (fun h => absurd hns h) (fun _ n2 H2 T b1 b2 b3 hrs => ?_)
  simp (disch := omega) [-hset_if, -Bool.decide_and, hset_ne]
  have hlC : C < n1 := hcl.s.2.2.1
  refine AW.while (σ := Nat) (fun j => l.length - j) (fun j => [(2, pv), (7, .pointer (some ⟨new C, 0, none⟩)), (9, .pointer (some ⟨new T, 0, none⟩)), (11, .int .i64 (j : Int))])
    (fun j n3 H3 => j ≤ l.length ∧ (∀ i, i < n → H3 i = H i) ∧ CLI H3 w0 n n3 C T j) 0 ?_ ?_ ?_
  · simp (disch := omega) [-hset_if, -Bool.decide_and, hset_ne]
  · refine ⟨by omega, fun i hi => by rw [b2 i (by omega), a2 i hi], ⟨_, _, _, _, _, _, _, _, _, _, _, _, ⟨hcl.frame b1 (fun i hi => b2 i (by omega)), hrs, fun i hi y => by omega, fun i hi => by omega, fun i hi => by omega, by omega⟩, COk.new hns⟩⟩
  rintro j n3 H3 ⟨g1, g2, ⟨c, D, P, v, u, E, F, DT, v', u', E', F', g3, ok3⟩⟩
  have hs3 : SlR ⟨Try.prog, w0⟩ H3 D0 11 Opn.cells pv l := hs.frame (fun i hi => g2 i (hD i hi))
  have hle3 := g3.le
  have hlen3 := ok3.len
  have hmost3 := ok3.most
  have hsent3 := ok3.sent
  simp (disch := omega) [-hset_if, -Bool.decide_and, hset_ne, hs3.lenK]
  refine cif_dec (fun c1 => ?_) (fun c1 => ?_)
  rotate_left
  · simp (disch := omega) [-hset_if, -Bool.decide_and, hset_ne]
    exact hr.fin rfl (by omega) g2
  simp (disch := omega) [-hset_if, -Bool.decide_and, hset_ne, hs3.ix elemS22, hs3.load0 shp3, hs3.load shp3, hs3.load shp9]
  refine cif_beq (fun c2 => ?_) (fun c2 => ?_)
  · simp (disch := omega) [-hset_if, -Bool.decide_and, hset_ne, hs3.ix elemS22, hs3.load0 shp3, hs3.load shp3, hs3.load shp9]
    refine Send_ok g3.cli (by omega) ?_
    intro n4 H4 D4 P4 v4 u4 E4 F4 d1 d2 d3 d4
    have g4 := g3.cl d1 d2 d3 d4
    have f4 : ∀ i, i < n → H4 i = H i := fun i hi => by rw [d2 i (by omega) (fun y => by have := g3.co i y; omega), g2 i hi]
    have hs4 : SlR ⟨Try.prog, w0⟩ H4 D0 11 Opn.cells pv l := hs.frame (fun i hi => f4 i (hD i hi))
    have ok6 := ok3.send (at_ l (j : Int)).data
    generalize hx : sendP c (at_ l (j : Int)).data = x at *
    have hle4 := g4.le
    clear d1 d2 d3 d4
    simp (disch := omega) [-hset_if, -Bool.decide_and, hset_ne, skV]
    have g4b := g4.al (n' := n4 + 1) (H' := hset n4 (.cells [.int .i64 x.1.1.boot, .int .i64 x.1.1.inv, .string x.1.1.data] 35 1) H4) (by omega) (fun i hi => hset_ne (by omega) _ _)
    generalize hH5 : hset n4 _ H4 = H5 at *
    have hx5 : H5 n4 = .cells [.int .i64 x.1.1.boot, .int .i64 x.1.1.inv, .string x.1.1.data] 35 1 := by rw [← hH5, hset_same]
    have f5 : ∀ i, i < n → H5 i = H i := fun i hi => by rw [← hH5, hset_ne (by omega), f4 i hi]
    clear hH5
    have hs5 : SlR ⟨Try.prog, w0⟩ H5 D0 11 Opn.cells pv l := hs.frame (fun i hi => f5 i (hD i hi))
    simp (disch := omega) [-hset_if, -Bool.decide_and, hset_ne, hs5.ix elemS22, hs5.load0 shp3, hs5.load shp3, hs5.load shp9]
    refine RSend_ok g4b.rcl (by omega) (by omega) ?_
    rw [hx]
    intro n6 H6 D6 v6 u6 E6 F6 d1 d2 d3 d4
    have g6 := g4b.rc d1 d2 d3 d4
    have f6 : ∀ i, i < n → H6 i = H i := fun i hi => by rw [d2 i (by omega) (fun y => by have := g4b.ro i y; omega), f5 i hi]
    have hx6 : H6 n4 = .cells [.int .i64 x.1.1.boot, .int .i64 x.1.1.inv, .string x.1.1.data] 35 1 := by rw [d2 n4 (by omega) (fun y => by have := g4.lt (.inr y); omega)]; exact hx5
    have hle6 := g6.le
    clear d2 d3 d4
    simp (disch := omega) [-hset_if, -Bool.decide_and, hset_ne, skV, hx6]
    have g6b := g6.al (n' := n6 + 1) (H' := hset n6 (.cells [.int .i64 x.1.1.boot, .int .i64 x.1.1.inv, .string x.1.1.data] 35 1) H6) (by omega) (fun i hi => hset_ne (by omega) _ _)
    generalize hH7 : hset n6 _ H6 = H7 at *
    have f6b : ∀ i, i < n → H7 i = H i := fun i hi => by rw [← hH7, hset_ne (by omega), f6 i hi]
    clear hH7
    replace g6 := g6b
    replace f6 := f6b
    have k6 := g6.cli
    refine AW.draw (X := ⟨_, 130, _, _⟩) (id := 25) mixed (.take 0 <| .take 2 <| .each 1 [2] (.each 3 [] (.each 4 [] (.take 5 <| .take 6 <| .take 7 <| .take 9 <| .take 10 <| .take 11 <| .take 12 <| .each 8 [9, 10, 11, 12] (.each 13 [] (.take 14 <| .take 15 <| .done) <| .stop) <| .stop) <| .stop) <| .stop) <| .stop) (by kernel_rfl) ?_
    simp (disch := omega) [-hset_if, -Bool.decide_and, hset_ne]
    refine Pending_ok g6.cli (by have := ok6.most; omega) ?_
    intro n7 H7 x7 G7 a1 a2 a3 a4
    have g7 := g6.al a1 a2
    simp (disch := omega) [-hset_if, -Bool.decide_and, hset_ne]
    refine Numbers_ok g7.rcl (by have := ok6.most; omega) ?_
    intro n8 H8 x8 G8 b1 b2 b3 b4
    have g8 := g7.al b1 b2
    have a5 := a3.frame b1 (fun i hi => b2 i (a3.lt i hi))
    simp (disch := omega) [-hset_if, -Bool.decide_and, hset_ne]
    refine sameInt_ok a5.sl b3.sl (by have := ok6.most; simp [invs]; omega) ?_
    intro n9 H9 c1 c2
    have g9 := g8.al c1 c2
    have hT9 := g9.rcl.self
    simp (disch := omega) [-hset_if, -Bool.decide_and, hset_ne, hT9]
    refine Done_ok g9.cli (by have := ok6.len; omega) ?_
    intro n10 H10 x10 G10 d1 d2 d3 d4
    have g10 := g9.al d1 d2
    have hT10 := g10.rcl.self
    simp (disch := omega) [-hset_if, -Bool.decide_and, hset_ne, hT10]
    refine sameAns_ok d3.sl g10.rcl.dn.sl (by have := ok6.len; omega) ?_
    intro n11 H11 e1 e2
    have g11 := g10.al e1 e2
    simp (disch := omega) [-hset_if, -Bool.decide_and, hset_ne]
    refine Next.mk (j + 1) (by first | omega | (dsimp only; omega)) (by simp (disch := omega) [-hset_if, -Bool.decide_and, hset_ne]) ⟨by omega, fun i hi => ?_, ⟨_, _, _, _, _, _, _, _, _, _, _, _, g11, ok6⟩⟩
    rw [e2 i (by have := g10.le; omega), d2 i (by have := g9.le; omega), c2 i (by have := g8.le; omega), b2 i (by have := g7.le; omega), a2 i (by have := g6.le; omega)]
    exact f6 i hi
  simp (disch := omega) [-hset_if, -Bool.decide_and, hset_ne]
  refine cif_beq (fun c3 => ?_) (fun c3 => ?_)
  · simp (disch := omega) [-hset_if, -Bool.decide_and, hset_ne]
    refine AW.draw (X := ⟨_, 130, _, _⟩) (id := 23) mixed (.take 0 <| .take 1 <| .take 2 <| .take 3 <| .take 4 <| .take 5 <| .take 7 <| .take 8 <| .take 9 <| .take 10 <| .take 11 <| .take 12 <| .each 6 [7, 8, 9, 10, 11, 12] (.each 13 [] (.each 14 [] (.take 15 <| .done) <| .stop) <| .stop) <| .stop) (by kernel_rfl) ?_
    simp (disch := omega) [-hset_if, -Bool.decide_and, hset_ne, hs3.ix elemS22, hs3.load0 shp3, hs3.load shp3, hs3.load shp33]
    refine CHandle_ok (a := (at_ l (j : Int)).ans) g3.cli (by omega) (by omega) ?_
    intro n4 H4 D4 P4 v4 u4 E4 F4 x4 G4 d1 d2 d3 d4 d5 d6
    have g4 := g3.cl d1 d2 d3 d4
    have f4 : ∀ i, i < n → H4 i = H i := fun i hi => by rw [d2 i (by omega) (fun y => by have := g3.co i y; omega), g2 i hi]
    have hs4 : SlR ⟨Try.prog, w0⟩ H4 D0 11 Opn.cells pv l := hs.frame (fun i hi => f4 i (hD i hi))
    have ok6 := ok3.hand (at_ l (j : Int)).ans
    have hG4 : ∀ i, G4 i → ¬ DT i := fun i hi y => by have := (d6 i hi).1; have := g3.lt (.inr y); omega
    generalize hx : handC c (at_ l (j : Int)).ans = x at *
    have hle4 := g4.le
    clear d1 d2 d3 d4 d6
    simp (disch := omega) [-hset_if, -Bool.decide_and, hset_ne, hs4.ix elemS22, hs4.load0 shp3, hs4.load shp3, hs4.load shp33]
    refine RCHandle_ok (a := (at_ l (j : Int)).ans) g4.rcl (by omega) (by omega) ?_
    rw [hx]
    intro n5 H5 D5 v5 u5 E5 F5 x5 G5 d1 d2 d3 d4 d7 d6
    have g5 := g4.rc d1 d2 d3 d4
    have f5 : ∀ i, i < n → H5 i = H i := fun i hi => by rw [d2 i (by omega) (fun y => by have := g4.ro i y; omega), f4 i hi]
    have d5' := d5.frame d1 (fun i hi => d2 i (d5.lt i hi) (hG4 i hi))
    have hle5 := g5.le
    clear d1 d2 d3 d4 d6
    simp (disch := omega) [-hset_if, -Bool.decide_and, hset_ne]
    have hxl : x.1.length ≤ 1 := by rw [← hx]; unfold handC; dsimp only; split; simp; split; split <;> simp; split; simp; split <;> simp
    refine sameAsk_ok d5'.sl d7.sl (by omega) ?_
    intro n6 H6 e1 e2
    have g6 := g5.al e1 e2
    have f6 : ∀ i, i < n → H6 i = H i := fun i hi => by rw [e2 i (by omega), f5 i hi]
    simp (disch := omega) [-hset_if, -Bool.decide_and, hset_ne]
    have k6 := g6.cli
    refine AW.draw (X := ⟨_, 130, _, _⟩) (id := 25) mixed (.take 0 <| .take 2 <| .each 1 [2] (.each 3 [] (.each 4 [] (.take 5 <| .take 6 <| .take 7 <| .take 9 <| .take 10 <| .take 11 <| .take 12 <| .each 8 [9, 10, 11, 12] (.each 13 [] (.take 14 <| .take 15 <| .done) <| .stop) <| .stop) <| .stop) <| .stop) <| .stop) (by kernel_rfl) ?_
    simp (disch := omega) [-hset_if, -Bool.decide_and, hset_ne]
    refine Pending_ok g6.cli (by have := ok6.most; omega) ?_
    intro n7 H7 x7 G7 a1 a2 a3 a4
    have g7 := g6.al a1 a2
    simp (disch := omega) [-hset_if, -Bool.decide_and, hset_ne]
    refine Numbers_ok g7.rcl (by have := ok6.most; omega) ?_
    intro n8 H8 x8 G8 b1 b2 b3 b4
    have g8 := g7.al b1 b2
    have a5 := a3.frame b1 (fun i hi => b2 i (a3.lt i hi))
    simp (disch := omega) [-hset_if, -Bool.decide_and, hset_ne]
    refine sameInt_ok a5.sl b3.sl (by have := ok6.most; simp [invs]; omega) ?_
    intro n9 H9 c1 c2
    have g9 := g8.al c1 c2
    have hT9 := g9.rcl.self
    simp (disch := omega) [-hset_if, -Bool.decide_and, hset_ne, hT9]
    refine Done_ok g9.cli (by have := ok6.len; omega) ?_
    intro n10 H10 x10 G10 d1 d2 d3 d4
    have g10 := g9.al d1 d2
    have hT10 := g10.rcl.self
    simp (disch := omega) [-hset_if, -Bool.decide_and, hset_ne, hT10]
    refine sameAns_ok d3.sl g10.rcl.dn.sl (by have := ok6.len; omega) ?_
    intro n11 H11 e1 e2
    have g11 := g10.al e1 e2
    simp (disch := omega) [-hset_if, -Bool.decide_and, hset_ne]
    refine Next.mk (j + 1) (by first | omega | (dsimp only; omega)) (by simp (disch := omega) [-hset_if, -Bool.decide_and, hset_ne]) ⟨by omega, fun i hi => ?_, ⟨_, _, _, _, _, _, _, _, _, _, _, _, g11, ok6⟩⟩
    rw [e2 i (by have := g10.le; omega), d2 i (by have := g9.le; omega), c2 i (by have := g8.le; omega), b2 i (by have := g7.le; omega), a2 i (by have := g6.le; omega)]
    exact f6 i hi
  · simp (disch := omega) [-hset_if, -Bool.decide_and, hset_ne]
    have hnc := ok3.nc
    unfold ncOk at hnc
    refine Tick_ok g3.cli (by omega) (by omega) (fun w hw => by have := ok3.wt w hw; omega) ?_
    intro n4 H4 D4 P4 v4 u4 E4 F4 x4 G4 d1 d2 d3 d4 d5 d6
    have g4 := g3.cl d1 d2 d3 d4
    have f4 : ∀ i, i < n → H4 i = H i := fun i hi => by rw [d2 i (by omega) (fun y => by have := g3.co i y; omega), g2 i hi]
    have ok6 := ok3.tick
    have hG4 : ∀ i, G4 i → ¬ DT i := fun i hi y => by have := (d6 i hi).1; have := g3.lt (.inr y); omega
    have hle4 := g4.le
    clear d1 d2 d3 d4 d6
    simp (disch := omega) [-hset_if, -Bool.decide_and, hset_ne]
    refine RTick_ok g4.rcl (by omega) (by omega) (fun w hw => by have := ok3.wt w hw; omega) (by omega) ?_
    intro n5 H5 D5 v5 u5 E5 F5 x5 G5 d1 d2 d3 d4 d7 d6
    have g5 := g4.rc d1 d2 d3 d4
    have f5 : ∀ i, i < n → H5 i = H i := fun i hi => by rw [d2 i (by omega) (fun y => by have := g4.ro i y; omega), f4 i hi]
    have d5' := d5.frame d1 (fun i hi => d2 i (d5.lt i hi) (hG4 i hi))
    have hle5 := g5.le
    clear d1 d2 d3 d4 d6
    simp (disch := omega) [-hset_if, -Bool.decide_and, hset_ne]
    have hxl : (tickP c).1.length ≤ c.opn.length := by unfold tickP tkA; exact List.length_filterMap_le _ _
    refine sameAsk_ok d5'.sl d7.sl (by omega) ?_
    intro n6 H6 e1 e2
    have g6 := g5.al e1 e2
    have f6 : ∀ i, i < n → H6 i = H i := fun i hi => by rw [e2 i (by omega), f5 i hi]
    simp (disch := omega) [-hset_if, -Bool.decide_and, hset_ne]
    have k6 := g6.cli
    refine AW.draw (X := ⟨_, 130, _, _⟩) (id := 25) mixed (.take 0 <| .take 2 <| .each 1 [2] (.each 3 [] (.each 4 [] (.take 5 <| .take 6 <| .take 7 <| .take 9 <| .take 10 <| .take 11 <| .take 12 <| .each 8 [9, 10, 11, 12] (.each 13 [] (.take 14 <| .take 15 <| .done) <| .stop) <| .stop) <| .stop) <| .stop) <| .stop) (by kernel_rfl) ?_
    simp (disch := omega) [-hset_if, -Bool.decide_and, hset_ne]
    refine Pending_ok g6.cli (by have := ok6.most; omega) ?_
    intro n7 H7 x7 G7 a1 a2 a3 a4
    have g7 := g6.al a1 a2
    simp (disch := omega) [-hset_if, -Bool.decide_and, hset_ne]
    refine Numbers_ok g7.rcl (by have := ok6.most; omega) ?_
    intro n8 H8 x8 G8 b1 b2 b3 b4
    have g8 := g7.al b1 b2
    have a5 := a3.frame b1 (fun i hi => b2 i (a3.lt i hi))
    simp (disch := omega) [-hset_if, -Bool.decide_and, hset_ne]
    refine sameInt_ok a5.sl b3.sl (by have := ok6.most; simp [invs]; omega) ?_
    intro n9 H9 c1 c2
    have g9 := g8.al c1 c2
    have hT9 := g9.rcl.self
    simp (disch := omega) [-hset_if, -Bool.decide_and, hset_ne, hT9]
    refine Done_ok g9.cli (by have := ok6.len; omega) ?_
    intro n10 H10 x10 G10 d1 d2 d3 d4
    have g10 := g9.al d1 d2
    have hT10 := g10.rcl.self
    simp (disch := omega) [-hset_if, -Bool.decide_and, hset_ne, hT10]
    refine sameAns_ok d3.sl g10.rcl.dn.sl (by have := ok6.len; omega) ?_
    intro n11 H11 e1 e2
    have g11 := g10.al e1 e2
    simp (disch := omega) [-hset_if, -Bool.decide_and, hset_ne]
    refine Next.mk (j + 1) (by first | omega | (dsimp only; omega)) (by simp (disch := omega) [-hset_if, -Bool.decide_and, hset_ne]) ⟨by omega, fun i hi => ?_, ⟨_, _, _, _, _, _, _, _, _, _, _, _, g11, ok6⟩⟩
    rw [e2 i (by have := g10.le; omega), d2 i (by have := g9.le; omega), c2 i (by have := g8.le; omega), b2 i (by have := g7.le; omega), a2 i (by have := g6.le; omega)]
    exact f6 i hi
end Go.Aw.S50
