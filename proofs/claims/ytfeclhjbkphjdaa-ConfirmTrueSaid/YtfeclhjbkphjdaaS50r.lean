/-
  Chapter 50: a client, its server, and what is under way.
-/
import Derived.Test.YtfeclhjbkphjdaaS50q
namespace Go.Aw.S50
open Go.RowKit Go.Proofs Go.Aw.Tab
set_option linter.unusedSimpArgs false
set_option linter.unusedVariables false
set_option maxRecDepth 10000
set_option maxHeartbeats 2000000
set_option pp.deepTerms false
set_option pp.deepTerms.threshold 4
set_option pp.maxSteps 1500
variable {w0 : World} {n : Nat} {H : Heap} {K : Value → Nat → Heap → Prop}
attribute [local simp] Ans.cells Ask.cells Opn.cells Wt.cells Qt.cells intC
structure NS where
  C : Nat
  S : Nat
  M : Nat
  X : Nat
  D : Nat → Prop
  E : Nat → Prop
  F : Nat → Prop
  P : List (Wt × Nat)
  v : Value
  u : Value
  c : Cl
  sv : Srv
  ms : List Ent
  boot : Int
  asks : List Ask
  va : Value
  A : Nat → Prop
  answers : List Ans
  vb : Value
  B : Nat → Prop
  given : List Ans
  vg : Value
  G : Nat → Prop
  data : List (Int × ByteArray)
def dtV (p : Int × ByteArray) : Int × Value := (p.1, .string p.2)
def NS.cells (s : NS) : List Value := [.pointer (some ⟨new s.C, 0, none⟩), .pointer (some ⟨new s.S, 0, none⟩), .int .i64 s.boot, s.va, s.vb, s.vg, .map (some (new s.X))]
def NS.own (s : NS) (N : Nat) : Nat → Nat → Prop
  | 0, i => i = N
  | 1, i => s.D i
  | 2, i => SvO s.S s.M s.ms i
  | 3, i => s.A i
  | 4, i => s.B i
  | 5, i => s.G i
  | 6, i => i = s.X
  | _, _ => False
structure NetR (H : Heap) (w0 : World) (n0 n N : Nat) (col : Nat → Nat) (s : NS) : Prop where
  self : H N = .cells s.cells 79 1
  cli : CliR H w0 n s.C s.D s.c s.P s.v s.u s.E s.F
  srv : SvR H n s.S s.M s.sv s.ms
  ak : OwR ⟨Try.prog, w0⟩ H n s.A 35 3 Ask.cells s.va s.asks
  an : OwR ⟨Try.prog, w0⟩ H n s.B 33 4 Ans.cells s.vb s.answers
  gv : OwR ⟨Try.prog, w0⟩ H n s.G 33 4 Ans.cells s.vg s.given
  mp : MapG intK H s.X (s.data.map dtV)
  cl : ∀ j i, s.own N j i → col i = j ∧ i < n
  lo : ∀ i, i < n0 → col i = 7
  le : n0 ≤ n
def ext (n k : Nat) (col : Nat → Nat) (i : Nat) : Nat := if i < n then col i else k
section
variable {n0 N : Nat} {col : Nat → Nat} {s : NS} {n' : Nat} {H' : Heap} {k : Nat}
theorem NetR.N0 (g : NetR H w0 n0 n N col s) : col N = 0 ∧ N < n := g.cl 0 N rfl
theorem NetR.colD (g : NetR H w0 n0 n N col s) {i : Nat} (h : s.D i) : col i = 1 ∧ i < n := g.cl 1 i h
theorem NetR.colS (g : NetR H w0 n0 n N col s) {i : Nat} (h : SvO s.S s.M s.ms i) : col i = 2 ∧ i < n := g.cl 2 i h
theorem NetR.colA (g : NetR H w0 n0 n N col s) {i : Nat} (h : s.A i) : col i = 3 ∧ i < n := g.cl 3 i h
theorem NetR.colB (g : NetR H w0 n0 n N col s) {i : Nat} (h : s.B i) : col i = 4 ∧ i < n := g.cl 4 i h
theorem NetR.colG (g : NetR H w0 n0 n N col s) {i : Nat} (h : s.G i) : col i = 5 ∧ i < n := g.cl 5 i h
theorem NetR.colX (g : NetR H w0 n0 n N col s) : col s.X = 6 ∧ s.X < n := g.cl 6 s.X rfl
/-- The colours behind a step in which the objects of one colour may change. -/
theorem NetR.cols (g : NetR H w0 n0 n N col s) (h1 : n ≤ n') {s' : NS} (ho : ∀ j i, s'.own N j i → s.own N j i ∨ j = k ∧ n ≤ i ∧ i < n') : (∀ j i, s'.own N j i → ext n k col i = j ∧ i < n') ∧ (∀ i, i < n0 → ext n k col i = 7) ∧ n0 ≤ n' := by
  have hle := g.le
  refine ⟨fun j i h => ?_, fun i hi => ?_, by omega⟩
  · rcases ho j i h with z | ⟨rfl, z1, z2⟩
    · obtain ⟨a, b⟩ := g.cl j i z
      unfold ext
      rw [if_pos b]
      exact ⟨a, by omega⟩
    · unfold ext
      rw [if_neg (by omega)]
      exact ⟨rfl, z2⟩
  · unfold ext
    rw [if_pos (by omega)]
    exact g.lo i hi
theorem NetR.al (g : NetR H w0 n0 n N col s) (h1 : n ≤ n') (fr : ∀ i, i < n → col i ≤ 6 → H' i = H i) : NetR H' w0 n0 n' N (ext n 7 col) s := by
  obtain ⟨a, b, c⟩ := g.cols (k := 7) h1 (s' := s) (fun j i h => .inl h)
  have f : ∀ j i, j ≤ 6 → s.own N j i → H' i = H i := fun j i hj h => fr i (g.cl j i h).2 (by rw [(g.cl j i h).1]; exact hj)
  exact ⟨by rw [f 0 N (by omega) rfl]; exact g.self, g.cli.frame h1 (fun i hi => f 1 i (by omega) hi), g.srv.frameD h1 (fun i hi => f 2 i (by omega) hi), g.ak.frame h1 (fun i hi => f 3 i (by omega) hi), g.an.frame h1 (fun i hi => f 4 i (by omega) hi), g.gv.frame h1 (fun i hi => f 5 i (by omega) hi), g.mp.frame (f 6 s.X (by omega) rfl), a, b, c⟩
theorem NetR.fj (g : NetR H w0 n0 n N col s) (fr : ∀ i, i < n → col i ≠ k → i ≠ N → H' i = H i) (j i : Nat) (hj : j ≠ k) (h0 : j ≠ 0) (h : s.own N j i) : H' i = H i :=
  fr i (g.cl j i h).2 (by rw [(g.cl j i h).1]; exact hj) (by rintro rfl; have := (g.cl j i h).1; rw [g.N0.1] at this; omega)
theorem NetR.clS (g : NetR H w0 n0 n N col s) (h1 : n ≤ n') (fr : ∀ i, i < n → ¬ s.D i → H' i = H i) {D' E' F' : Nat → Prop} {P' : List (Wt × Nat)} {v' u' : Value} {c' : Cl} (hD : ∀ i, D' i → s.D i ∨ n ≤ i) (hc : CliR H' w0 n' s.C D' c' P' v' u' E' F') :
    NetR H' w0 n0 n' N (ext n 1 col) { s with D := D', E := E', F := F', P := P', v := v', u := u', c := c' } := by
  obtain ⟨a, b, c⟩ := g.cols (k := 1) h1 (s' := { s with D := D', E := E', F := F', P := P', v := v', u := u', c := c' }) (fun j i h => by
    by_cases hj : j = 1
    · subst hj
      rcases hD i h with z | z
      · exact .inl z
      · exact .inr ⟨rfl, z, hc.lt h⟩
    · left
      match j, hj with
      | 0, _ => exact h
      | 2, _ => exact h
      | 3, _ => exact h
      | 4, _ => exact h
      | 5, _ => exact h
      | 6, _ => exact h
      | j + 7, _ => exact h.elim)
  have f : ∀ j i, j ≠ 1 → s.own N j i → H' i = H i := fun j i hj h => fr i (g.cl j i h).2 (fun y => by have := (g.colD y).1; have := (g.cl j i h).1; omega)
  exact ⟨by rw [f 0 N (by omega) rfl]; exact g.self, hc, g.srv.frameD h1 (fun i hi => f 2 i (by omega) hi), g.ak.frame h1 (fun i hi => f 3 i (by omega) hi), g.an.frame h1 (fun i hi => f 4 i (by omega) hi), g.gv.frame h1 (fun i hi => f 5 i (by omega) hi), g.mp.frame (f 6 s.X (by omega) rfl), a, b, c⟩
theorem NetR.svS (g : NetR H w0 n0 n N col s) (h1 : n ≤ n') (fr : ∀ i, i < n → ¬ SvO s.S s.M s.ms i → H' i = H i) {ms' : List Ent} {sv' : Srv} (hD : ∀ i, SvO s.S s.M ms' i → SvO s.S s.M s.ms i ∨ n ≤ i) (hc : SvR H' n' s.S s.M sv' ms') :
    NetR H' w0 n0 n' N (ext n 2 col) { s with sv := sv', ms := ms' } := by
  obtain ⟨a, b, c⟩ := g.cols (k := 2) h1 (s' := { s with sv := sv', ms := ms' }) (fun j i h => by
    by_cases hj : j = 2
    · subst hj
      rcases hD i h with z | z
      · exact .inl z
      · exact .inr ⟨rfl, z, hc.lt' h⟩
    · left
      match j, hj with
      | 0, _ => exact h
      | 1, _ => exact h
      | 3, _ => exact h
      | 4, _ => exact h
      | 5, _ => exact h
      | 6, _ => exact h
      | j + 7, _ => exact h.elim)
  have f : ∀ j i, j ≠ 2 → s.own N j i → H' i = H i := fun j i hj h => fr i (g.cl j i h).2 (fun y => by have := (g.colS y).1; have := (g.cl j i h).1; omega)
  exact ⟨by rw [f 0 N (by omega) rfl]; exact g.self, g.cli.frame h1 (fun i hi => f 1 i (by omega) hi), hc, g.ak.frame h1 (fun i hi => f 3 i (by omega) hi), g.an.frame h1 (fun i hi => f 4 i (by omega) hi), g.gv.frame h1 (fun i hi => f 5 i (by omega) hi), g.mp.frame (f 6 s.X (by omega) rfl), a, b, c⟩
theorem NetR.asS (g : NetR H w0 n0 n N col s) (h1 : n ≤ n') {L' : List Ask} {x : Value} {A' : Nat → Prop} (fr : ∀ i, i < n → ¬ s.A i → i ≠ N → H' i = H i) (hself : H' N = .cells ({ s with asks := L', va := x, A := A' } : NS).cells 79 1) (hD : ∀ i, A' i → s.A i ∨ n ≤ i) (hc : OwR ⟨Try.prog, w0⟩ H' n' A' 35 3 Ask.cells x L') :
    NetR H' w0 n0 n' N (ext n 3 col) { s with asks := L', va := x, A := A' } := by
  obtain ⟨a, b, c⟩ := g.cols (k := 3) h1 (s' := { s with asks := L', va := x, A := A' }) (fun j i h => by
    by_cases hj : j = 3
    · subst hj
      rcases hD i h with z | z
      · exact .inl z
      · exact .inr ⟨rfl, z, hc.lt i h⟩
    · left
      match j, hj with
      | 0, _ => exact h
      | 1, _ => exact h
      | 2, _ => exact h
      | 4, _ => exact h
      | 5, _ => exact h
      | 6, _ => exact h
      | j + 7, _ => exact h.elim)
  have f : ∀ j i, j ≠ 3 → j ≠ 0 → s.own N j i → H' i = H i := fun j i hj h0 h => fr i (g.cl j i h).2 (fun y => by have := (g.colA y).1; have := (g.cl j i h).1; omega) (by rintro rfl; have := (g.cl j i h).1; rw [g.N0.1] at this; omega)
  exact ⟨hself, g.cli.frame h1 (fun i hi => f 1 i (by omega) (by omega) hi), g.srv.frameD h1 (fun i hi => f 2 i (by omega) (by omega) hi), hc, g.an.frame h1 (fun i hi => f 4 i (by omega) (by omega) hi), g.gv.frame h1 (fun i hi => f 5 i (by omega) (by omega) hi), g.mp.frame (f 6 s.X (by omega) (by omega) rfl), a, b, c⟩
theorem NetR.anS (g : NetR H w0 n0 n N col s) (h1 : n ≤ n') {L' : List Ans} {x : Value} {A' : Nat → Prop} (fr : ∀ i, i < n → ¬ s.B i → i ≠ N → H' i = H i) (hself : H' N = .cells ({ s with answers := L', vb := x, B := A' } : NS).cells 79 1) (hD : ∀ i, A' i → s.B i ∨ n ≤ i) (hc : OwR ⟨Try.prog, w0⟩ H' n' A' 33 4 Ans.cells x L') :
    NetR H' w0 n0 n' N (ext n 4 col) { s with answers := L', vb := x, B := A' } := by
  obtain ⟨a, b, c⟩ := g.cols (k := 4) h1 (s' := { s with answers := L', vb := x, B := A' }) (fun j i h => by
    by_cases hj : j = 4
    · subst hj
      rcases hD i h with z | z
      · exact .inl z
      · exact .inr ⟨rfl, z, hc.lt i h⟩
    · left
      match j, hj with
      | 0, _ => exact h
      | 1, _ => exact h
      | 2, _ => exact h
      | 3, _ => exact h
      | 5, _ => exact h
      | 6, _ => exact h
      | j + 7, _ => exact h.elim)
  have f : ∀ j i, j ≠ 4 → j ≠ 0 → s.own N j i → H' i = H i := fun j i hj h0 h => fr i (g.cl j i h).2 (fun y => by have := (g.colB y).1; have := (g.cl j i h).1; omega) (by rintro rfl; have := (g.cl j i h).1; rw [g.N0.1] at this; omega)
  exact ⟨hself, g.cli.frame h1 (fun i hi => f 1 i (by omega) (by omega) hi), g.srv.frameD h1 (fun i hi => f 2 i (by omega) (by omega) hi), g.ak.frame h1 (fun i hi => f 3 i (by omega) (by omega) hi), hc, g.gv.frame h1 (fun i hi => f 5 i (by omega) (by omega) hi), g.mp.frame (f 6 s.X (by omega) (by omega) rfl), a, b, c⟩
theorem NetR.gvS (g : NetR H w0 n0 n N col s) (h1 : n ≤ n') {L' : List Ans} {x : Value} {A' : Nat → Prop} (fr : ∀ i, i < n → ¬ s.G i → i ≠ N → H' i = H i) (hself : H' N = .cells ({ s with given := L', vg := x, G := A' } : NS).cells 79 1) (hD : ∀ i, A' i → s.G i ∨ n ≤ i) (hc : OwR ⟨Try.prog, w0⟩ H' n' A' 33 4 Ans.cells x L') :
    NetR H' w0 n0 n' N (ext n 5 col) { s with given := L', vg := x, G := A' } := by
  obtain ⟨a, b, c⟩ := g.cols (k := 5) h1 (s' := { s with given := L', vg := x, G := A' }) (fun j i h => by
    by_cases hj : j = 5
    · subst hj
      rcases hD i h with z | z
      · exact .inl z
      · exact .inr ⟨rfl, z, hc.lt i h⟩
    · left
      match j, hj with
      | 0, _ => exact h
      | 1, _ => exact h
      | 2, _ => exact h
      | 3, _ => exact h
      | 4, _ => exact h
      | 6, _ => exact h
      | j + 7, _ => exact h.elim)
  have f : ∀ j i, j ≠ 5 → j ≠ 0 → s.own N j i → H' i = H i := fun j i hj h0 h => fr i (g.cl j i h).2 (fun y => by have := (g.colG y).1; have := (g.cl j i h).1; omega) (by rintro rfl; have := (g.cl j i h).1; rw [g.N0.1] at this; omega)
  exact ⟨hself, g.cli.frame h1 (fun i hi => f 1 i (by omega) (by omega) hi), g.srv.frameD h1 (fun i hi => f 2 i (by omega) (by omega) hi), g.ak.frame h1 (fun i hi => f 3 i (by omega) (by omega) hi), g.an.frame h1 (fun i hi => f 4 i (by omega) (by omega) hi), hc, g.mp.frame (f 6 s.X (by omega) (by omega) rfl), a, b, c⟩
theorem NetR.mpS (g : NetR H w0 n0 n N col s) {o : AObj} {d : List (Int × ByteArray)} (hc : MapG intK (hset s.X o H) s.X (d.map dtV)) : NetR (hset s.X o H) w0 n0 n N col { s with data := d } := by
  have f : ∀ j i, j ≠ 6 → s.own N j i → hset s.X o H i = H i := fun j i hj h => hset_ne (by rintro rfl; have := (g.cl j _ h).1; rw [g.colX.1] at this; omega) _ _
  have hle := Nat.le_refl n
  exact ⟨by rw [f 0 N (by omega) rfl]; exact g.self, g.cli.frame hle (fun i hi => f 1 i (by omega) hi), g.srv.frameD hle (fun i hi => f 2 i (by omega) hi), g.ak.frame hle (fun i hi => f 3 i (by omega) hi), g.an.frame hle (fun i hi => f 4 i (by omega) hi), g.gv.frame hle (fun i hi => f 5 i (by omega) hi), hc, fun j i h => g.cl j i (by match j, h with | 0, h => exact h | 1, h => exact h | 2, h => exact h | 3, h => exact h | 4, h => exact h | 5, h => exact h | 6, h => exact h | j + 7, h => exact h.elim), g.lo, g.le⟩
end
end Go.Aw.S50
