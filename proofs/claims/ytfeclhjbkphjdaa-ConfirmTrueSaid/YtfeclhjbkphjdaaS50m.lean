/-
  Chapter 50: a client and a server; the examples.
-/
import Derived.Test.YtfeclhjbkphjdaaS50l
namespace Go.Aw.S50
open Go.RowKit Go.Proofs Go.Aw.Tab
set_option linter.unusedSimpArgs false
set_option linter.unusedVariables false
set_option maxRecDepth 10000
set_option maxHeartbeats 4000000
set_option pp.deepTerms false
set_option pp.deepTerms.threshold 4
set_option pp.maxSteps 1500
variable {w0 : World} {n : Nat} {H : Heap} {K : Value → Nat → Heap → Prop}
attribute [local simp] Ans.cells Ask.cells Opn.cells Wt.cells Qt.cells intC
/-- A client and a server, apart. -/
structure CSR (H : Heap) (w0 : World) (n0 n C S M : Nat) (D : Nat → Prop) (c : Cl) (P : List (Wt × Nat)) (v u : Value) (E F : Nat → Prop) (sv : Srv) (ms : List Ent) : Prop where
  cli : CliR H w0 n C D c P v u E F
  srv : SvR H n S M sv ms
  ap : ∀ i, SvO S M ms i → ¬ D i
  co : ∀ i, D i → n0 ≤ i
  so : ∀ i, SvO S M ms i → n0 ≤ i
  le : n0 ≤ n
section
variable {n0 C S M : Nat} {D E F D' E' F' : Nat → Prop} {c c' : Cl} {P P' : List (Wt × Nat)} {v u v' u' : Value} {sv sv' : Srv} {ms ms' : List Ent} {n' : Nat} {H' : Heap}
theorem CSR.lt (g : CSR H w0 n0 n C S M D c P v u E F sv ms) {i : Nat} (hi : SvO S M ms i ∨ D i) : i < n := by
  rcases hi with hi | hi
  · exact g.srv.lt' hi
  · exact g.cli.lt hi
theorem CSR.fr (g : CSR H w0 n0 n C S M D c P v u E F sv ms) (h1 : n ≤ n') (h2 : ∀ i, SvO S M ms i ∨ D i → H' i = H i) : CSR H' w0 n0 n' C S M D c P v u E F sv ms :=
  ⟨g.cli.frame h1 (fun i hi => h2 i (.inr hi)), g.srv.frameD h1 (fun i hi => h2 i (.inl hi)), g.ap, g.co, g.so, by have := g.le; omega⟩
theorem CSR.cl' (g : CSR H w0 n0 n C S M D c P v u E F sv ms) (h1 : n ≤ n') (h2 : ∀ i, i < n → ¬ D i → H' i = H i) (h3 : ∀ i, D' i → D i ∨ n ≤ i) (h4 : CliR H' w0 n' C D' c' P' v' u' E' F') : CSR H' w0 n0 n' C S M D' c' P' v' u' E' F' sv ms := by
  have hle := g.le
  refine ⟨h4, g.srv.frameD h1 (fun i hi => h2 i (g.lt (.inl hi)) (g.ap i hi)), fun i hi y => ?_, fun i hi => ?_, g.so, by omega⟩
  · rcases h3 i y with z | z
    · exact g.ap i hi z
    · have := g.lt (.inl hi); omega
  · rcases h3 i hi with z | z
    · exact g.co i z
    · omega
theorem CSR.svs (g : CSR H w0 n0 n C S M D c P v u E F sv ms) (h1 : n ≤ n') (h2 : ∀ i, i < n → ¬ SvO S M ms i → H' i = H i) (h3 : ∀ i, SvO S M ms' i → SvO S M ms i ∨ n ≤ i) (h4 : SvR H' n' S M sv' ms') : CSR H' w0 n0 n' C S M D c P v u E F sv' ms' := by
  have hle := g.le
  refine ⟨g.cli.frame h1 (fun i hi => h2 i (g.lt (.inr hi)) (fun y => g.ap i y hi)), h4, fun i hi y => ?_, g.co, fun i hi => ?_, by omega⟩
  · rcases h3 i hi with z | z
    · exact g.ap i z y
    · have := g.lt (.inr y); omega
  · rcases h3 i hi with z | z
    · exact g.so i z
    · omega
theorem CSR.box (g : CSR H w0 n0 n C S M D c P v u E F sv ms) {o : AObj} : CSR (hset n o H) w0 n0 (n + 1) C S M D c P v u E F sv ms :=
  g.fr (by omega) (fun i hi => hset_ne (by have := g.lt hi; omega) _ _)
theorem CSR.hnd (g : CSR H w0 n0 n C S M D c P v u E F sv ms) (h1 : n ≤ n') (h2 : ∀ i, i < n → i ≠ S → i ≠ M → H' i = H i) (h3 : ∀ i, SvO S M ms' i → SvO S M ms i ∨ n ≤ i) (h4 : SvR H' n' S M sv' ms') : CSR H' w0 n0 n' C S M D c P v u E F sv' ms' :=
  g.svs h1 (fun i hi hno => h2 i hi (fun e => hno (.inl e)) (fun e => hno (.inr (.inl e)))) h3 h4
end
def sX : ByteArray := ⟨#[120]⟩
def sY : ByteArray := ⟨#[121]⟩
theorem awake_ok (hk : K (.bool true) n H) : ACall ⟨Try.prog, w0⟩ 9 [] K n H := by
  refine ACall.res (fun K' hr => ?_) (by simp) hk
  refine ACall.run Try.func9 rfl Try.ntmps9 Try.results9 (by simp) fun J0 => ?_
  simp (disch := omega) [-hset_if, -Bool.decide_and, hset_ne]
  refine NewClient_ok (fun h => absurd (show ncOk 3 2 by decide) h) (fun _ n1 H1 C a1 a2 a3 hC => ?_)
  simp (disch := omega) [-hset_if, -Bool.decide_and, hset_ne]
  refine NewServer_ok (fun h => absurd (show nsOk 7 4 by decide) h) (fun _ n2 H2 S M b1 b2 b3 b4 hS => ?_)
  have g2 : CSR H2 w0 n n2 C S M (· = C) ⟨3, 2, 0, 0, [], []⟩ [] (.slice none 0 0) (.slice none 0 0) (fun _ => False) (fun _ => False) ⟨7, 4, 0, 0, 0⟩ [] := by
    have hlt : C < n1 := hC.s.2.2.1
    refine ⟨hC.frame b1 (fun i hi => b2 i (by omega)), hS, fun i hi y => ?_, fun i hi => by omega, fun i hi => ?_, by omega⟩
    · rcases hi with rfl | rfl | ⟨e, he, _⟩
      · omega
      · omega
      · simp at he
    · rcases hi with rfl | rfl | ⟨e, he, _⟩
      · omega
      · omega
      · simp at he
  have f2 : ∀ i, i < n → H2 i = H i := fun i hi => by rw [b2 i (by omega), a2 i hi]
  clear b1 b2 b3 b4 hS hC a1 a2 a3
  simp (disch := omega) [-hset_if, -Bool.decide_and, hset_ne]
  refine Send_ok g2.cli (by decide) ?_
  intro n3 H3 D3 P3 v3 u3 E3 F3 d1 d2 d3 d4
  have g3 := g2.cl' d1 d2 d3 d4
  have f3 : ∀ i, i < n → H3 i = H i := fun i hi => by have := g2.le; rw [d2 i (by omega) (fun y => by have := g2.co i y; omega), f2 i hi]
  clear d1 d2 d3 d4
  have e3 : sendP ⟨3, 2, 0, 0, [], []⟩ (⟨#[120]⟩ : ByteArray) = ((⟨0, 1, ⟨#[120]⟩⟩, 0), ⟨3, 2, 0, 1, [⟨0, 1, ⟨#[120]⟩, false, 0, 0⟩], []⟩) := rfl
  rw [e3] at g3 ⊢
  dsimp only at g3
  have l3 := g3.le
  simp (disch := omega) [-hset_if, -Bool.decide_and, hset_ne, skV]
  refine Handle_ok (c := 1) (a := ⟨0, 1, ⟨#[120]⟩⟩) g3.box.srv ?_
  intro n4 H4 ms4 d1 d2 d3 d4 d5
  have g4 := g3.box.hnd d1 d2 d4 d5
  have f4 : ∀ i, i < n → H4 i = H i := fun i hi => by rw [d2 i (by omega) (fun y => by have := g3.so S (.inl rfl); omega) (fun y => by have := g3.so M (.inr (.inl rfl)); omega), hset_ne (by omega), f3 i hi]
  clear d1 d2 d4 d5
  have m4 : ∀ c, memOf ms4 c = ([], 0) := fun c => by rw [d3]; rfl
  have e4 : handleP ⟨7, 4, 0, 0, 0⟩ (memOf [] 1) 1 ⟨0, 1, ⟨#[120]⟩⟩ = ((⟨7, 1, 15, ⟨#[]⟩⟩, false, 0), ⟨7, 4, 0, 0, 0⟩) := rfl
  rw [e4] at g4 ⊢
  clear d3
  dsimp only at g4
  have l4 := g4.le
  simp (disch := omega) [-hset_if, -Bool.decide_and, hset_ne, hdV]
  refine CHandle_ok (a := ⟨7, 1, 15, ⟨#[]⟩⟩) g4.box.cli (by simp) (by simp) ?_
  intro n5 H5 D5 P5 v5 u5 E5 F5 x5 G5 d1 d2 d3 d4 d5 d6
  have g5 := g4.box.cl' d1 d2 d3 d4
  have f5 : ∀ i, i < n → H5 i = H i := fun i hi => by rw [d2 i (by omega) (fun y => by have := g4.co i y; omega), hset_ne (by omega), f4 i hi]
  have hG5 : ∀ i, G5 i → n4 + 1 ≤ i ∧ ¬ SvO S M ms4 i := fun i hi => ⟨(d6 i hi).1, fun y => by have := g4.lt (.inl y); have := (d6 i hi).1; omega⟩
  have e5 : handC ⟨3, 2, 0, 1, [⟨0, 1, ⟨#[120]⟩, false, 0, 0⟩], []⟩ ⟨7, 1, 15, ⟨#[]⟩⟩ = ([⟨7, 1, ⟨#[120]⟩⟩], ⟨3, 2, 7, 1, [⟨7, 1, ⟨#[120]⟩, true, 0, 0⟩], []⟩) := rfl
  rw [e5] at g5 d5
  dsimp only at g5 d5
  have hGD5 : ∀ i, G5 i → ¬ D5 i := fun i hi => (d6 i hi).2
  clear d1 d2 d3 d4 d6
  have l5 := g5.le
  generalize hL5 : [(⟨7, 1, ⟨#[120]⟩⟩ : Ask)] = L5 at d5
  have len0 : L5.length = 1 := by rw [← hL5]; rfl
  have at0 : at_ L5 0 = ⟨7, 1, ⟨#[120]⟩⟩ := by rw [← hL5]; rfl
  clear hL5
  have hx5 := d5.sl
  simp (disch := omega) [-hset_if, -Bool.decide_and, hset_ne, hx5.lenK, len0, hx5.ix elemS60, hx5.load shp3, hx5.load0 shp35, at0]
  refine Handle_ok (c := 1) (a := ⟨7, 1, ⟨#[120]⟩⟩) g5.srv ?_
  intro n6 H6 ms6 d1 d2 d3 d4 d6
  have g6 := g5.hnd d1 d2 d4 d6
  have f6 : ∀ i, i < n → H6 i = H i := fun i hi => by rw [d2 i (by omega) (fun y => by have := g5.so S (.inl rfl); omega) (fun y => by have := g5.so M (.inr (.inl rfl)); omega), f5 i hi]
  have hx6 : OwR ⟨Try.prog, w0⟩ H6 n6 G5 35 3 Ask.cells x5 L5 := d5.frame d1 (fun i hi => d2 i (d5.lt i hi) (fun e => (hG5 i hi).2 (.inl e)) (fun e => (hG5 i hi).2 (.inr (.inl e))))
  have hG6 : ∀ i, G5 i → n ≤ i ∧ ¬ SvO S M ms6 i := fun i hi => ⟨by have := (hG5 i hi).1; omega, fun y => by rcases d4 i y with z | z; exact (hG5 i hi).2 z; have := d5.lt i hi; omega⟩
  have m6 : ∀ c, memOf ms6 c = ([], 0) := fun c => by rw [d3, m4]
  have e6 : handleP ⟨7, 4, 0, 0, 0⟩ (memOf ms4 1) 1 ⟨7, 1, ⟨#[120]⟩⟩ = ((default, true, 0), ⟨7, 4, 1, 1, 0⟩) := by rw [m4]; rfl
  rw [e6] at g6 ⊢
  clear d1 d2 d3 d4 d6
  dsimp only at g6
  have l6 := g6.le
  simp (disch := omega) [-hset_if, -Bool.decide_and, hset_ne, hdV]
  have e7 : finP ⟨7, 4, 1, 1, 0⟩ 0 ⟨#[121]⟩ (memOf ms6) = ((⟨7, 1, 0, ⟨#[121]⟩⟩, 0), ⟨7, 4, 0, 0, 1⟩, fun c => if c = 1 then ([(1, ⟨7, 1, 0, ⟨#[121]⟩⟩)], 0) else ([], 0)) := by
    rw [show memOf ms6 = fun _ => ([], 0) from funext m6]
    rfl
  refine Finish_ok g6.srv (by decide) (by rw [m6]; decide) (by rw [m6]; simp) ?_
  rw [e7]
  intro n7 H7 ms7 d1 d2 d3 d4 d6
  have g7 := g6.svs d1 d2 d4 d6
  have f7 : ∀ i, i < n → H7 i = H i := fun i hi => by rw [d2 i (by omega) (fun y => by have := g6.so i y; omega), f6 i hi]
  have hx7 : OwR ⟨Try.prog, w0⟩ H7 n7 G5 35 3 Ask.cells x5 L5 := hx6.frame d1 (fun i hi => d2 i (hx6.lt i hi) (hG6 i hi).2)
  have m7 : memOf ms7 1 = ([(1, ⟨7, 1, 0, ⟨#[121]⟩⟩)], 0) := by rw [d3]; rfl
  have hG7 : ∀ i, G5 i → n ≤ i ∧ ¬ SvO S M ms7 i := fun i hi => ⟨(hG6 i hi).1, fun y => by rcases d4 i y with z | z; exact (hG6 i hi).2 z; have := hx6.lt i hi; omega⟩
  clear d1 d2 d3 d4 d6
  dsimp only at g7
  have l7 := g7.le
  have hGD : ∀ i, G5 i → ¬ D5 i := hGD5
  simp (disch := omega) [-hset_if, -Bool.decide_and, hset_ne, fnV]
  refine CHandle_ok (a := ⟨7, 1, 0, ⟨#[121]⟩⟩) g7.box.cli (by simp) (by simp) ?_
  intro n8 H8 D8 P8 v8 u8 E8 F8 x8 G8 d1 d2 d3 d4 d5' d6
  have hG7' : ∀ i, G5 i → n ≤ i ∧ ¬ D5 i := fun i hi => ⟨(hG6 i hi).1, hGD i hi⟩
  have g8 := g7.box.cl' d1 d2 d3 d4
  have f8 : ∀ i, i < n → H8 i = H i := fun i hi => by rw [d2 i (by omega) (fun y => by have := g7.co i y; omega), hset_ne (by omega), f7 i hi]
  have hx8 : OwR ⟨Try.prog, w0⟩ H8 n8 G5 35 3 Ask.cells x5 L5 := hx7.frame (by omega) (fun i hi => by have := hx7.lt i hi; rw [d2 i (by omega) (hGD i hi), hset_ne (by omega)])
  have b8 : H8 n7 = .cells [.int .i64 7, .int .i64 1, .int .i64 0, .string ⟨#[121]⟩] 33 1 := by rw [d2 n7 (by omega) (fun y => by have := g7.lt (.inr y); omega), hset_same]
  have e8 : handC ⟨3, 2, 7, 1, [⟨7, 1, ⟨#[120]⟩, true, 0, 0⟩], []⟩ ⟨7, 1, 0, ⟨#[121]⟩⟩ = ([], ⟨3, 2, 7, 1, [], [⟨7, 1, 0, ⟨#[121]⟩⟩]⟩) := rfl
  rw [e8] at g8
  dsimp only at g8
  have b8n : ¬ SvO S M ms7 n7 ∧ ¬ D8 n7 := ⟨fun y => by have := g7.lt (.inl y); omega, fun y => by rcases d3 _ y with z | z; have := g7.lt (.inr z); omega; omega⟩
  have hn8 : n7 < n8 := by omega
  clear d1 d2 d3 d4 d5' d6
  have l8 := g8.le
  simp (disch := omega) [-hset_if, -Bool.decide_and, hset_ne, hx8.sl.ix elemS60, len0, hx8.sl.load shp3, hx8.sl.load0 shp35, at0]
  refine Handle_ok (c := 1) (a := ⟨7, 1, ⟨#[120]⟩⟩) g8.srv ?_
  rw [m7]
  intro n9 H9 ms9 d1 d2 d3 d4 d6
  have g9 := g8.hnd d1 d2 d4 d6
  have hn9 : n7 < n9 := by omega
  have f9 : ∀ i, i < n → H9 i = H i := fun i hi => by rw [d2 i (by omega) (fun y => by have := g8.so S (.inl rfl); omega) (fun y => by have := g8.so M (.inr (.inl rfl)); omega), f8 i hi]
  have b9 : H9 n7 = .cells [.int .i64 7, .int .i64 1, .int .i64 0, .string ⟨#[121]⟩] 33 1 := by rw [d2 n7 (by omega) (fun y => b8n.1 (.inl y)) (fun y => b8n.1 (.inr (.inl y)))]; exact b8
  have e9 : handleP ⟨7, 4, 0, 0, 1⟩ ([(1, ⟨7, 1, 0, ⟨#[121]⟩⟩)], 0) 1 ⟨7, 1, ⟨#[120]⟩⟩ = ((⟨7, 1, 0, ⟨#[121]⟩⟩, false, 0), ⟨7, 4, 0, 0, 1⟩) := rfl
  rw [e9] at g9 ⊢
  dsimp only at g9
  clear d1 d2 d3 d4 d6
  have l9 := g9.le
  simp (disch := omega) [-hset_if, -Bool.decide_and, hset_ne, hdV]
  have g9' := g9.box (o := .cells [.int .i64 7, .int .i64 1, .int .i64 0, .string ⟨#[121]⟩] 33 1)
  generalize hH0 : hset n9 _ H9 = H0 at *
  have hz0 : H0 n9 = .cells [.int .i64 7, .int .i64 1, .int .i64 0, .string ⟨#[121]⟩] 33 1 := by rw [← hH0, hset_same]
  have hy0 : H0 n7 = .cells [.int .i64 7, .int .i64 1, .int .i64 0, .string ⟨#[121]⟩] 33 1 := by rw [← hH0, hset_ne (by omega)]; exact b9
  have f0 : ∀ i, i < n → H0 i = H i := fun i hi => by rw [← hH0, hset_ne (by omega), f9 i hi]
  clear hH0
  refine AW.draw (X := ⟨_, 145, _, _⟩) (id := 16) mixed (.take 0 <| .take 1 <| .take 2 <| .take 3 <| .take 4 <| .take 5 <| .take 6 <| .each 7 [] (.take 8 <| .take 9 <| .take 10 <| .take 11 <| .take 12 <| .take 16 <| .each 13 [16] (.take 14 <| .take 15 <| .take 17 <| .take 18 <| .take 19 <| .take 20 <| .each 21 [] (.take 22 <| .take 23 <| .take 24 <| .take 25 <| .take 26 <| .take 27 <| .take 28 <| .take 29 <| .take 30 <| .take 31 <| .take 32 <| .take 33 <| .take 34 <| .take 35 <| .each 36 [] (.take 37 <| .take 38 <| .take 39 <| .done) <| .stop) <| .stop) <| .stop) <| .stop) (by kernel_rfl) ?_
  simp (disch := omega) [-hset_if, -Bool.decide_and, hset_ne]
  refine Done_ok g9'.cli (by simp) ?_
  intro n10 H10 x10 G10 d1 d2 d3 d4
  have hy10 : H10 n7 = .cells [.int .i64 7, .int .i64 1, .int .i64 0, .string ⟨#[121]⟩] 33 1 := by rw [d2 _ (by omega)]; exact hy0
  have hz10 : H10 n9 = .cells [.int .i64 7, .int .i64 1, .int .i64 0, .string ⟨#[121]⟩] 33 1 := by rw [d2 _ (by omega)]; exact hz0
  simp (disch := omega) [-hset_if, -Bool.decide_and, hset_ne, d3.sl.lenK, hy10, hz10]
  refine Done_ok (g9'.cli.frame d1 (fun i hi => d2 i (g9'.lt (.inr hi)))) (by simp) ?_
  intro n11 H11 x11 G11 e1 e2 e3' e4'
  dsimp only at e3'
  generalize hL : [(⟨7, 1, 0, ⟨#[121]⟩⟩ : Ans)] = L at e3'
  have lenL : L.length = 1 := by rw [← hL]; rfl
  have atL : at_ L 0 = ⟨7, 1, 0, ⟨#[121]⟩⟩ := by rw [← hL]; rfl
  have hy1 : H11 n7 = .cells [.int .i64 7, .int .i64 1, .int .i64 0, .string ⟨#[121]⟩] 33 1 := by rw [e2 _ (by omega), d2 _ (by omega)]; exact hy0
  have hz1 : H11 n9 = .cells [.int .i64 7, .int .i64 1, .int .i64 0, .string ⟨#[121]⟩] 33 1 := by rw [e2 _ (by omega), d2 _ (by omega)]; exact hz0
  simp (disch := omega) [-hset_if, -Bool.decide_and, hset_ne, e3'.sl.ix elemS67, lenL, e3'.sl.load0 shp33, atL, hy1, hz1]
  refine Pending_ok (g9'.cli.frame (by omega) (fun i hi => by have := g9'.lt (.inr hi); rw [e2 i (by omega), d2 i this])) (by simp) ?_
  intro n12 H12 x12 G12 h1 h2 h3 h4
  have hy2 : H12 n7 = .cells [.int .i64 7, .int .i64 1, .int .i64 0, .string ⟨#[121]⟩] 33 1 := by rw [h2 _ (by omega)]; exact hy1
  have hz2 : H12 n9 = .cells [.int .i64 7, .int .i64 1, .int .i64 0, .string ⟨#[121]⟩] 33 1 := by rw [h2 _ (by omega)]; exact hz1
  simp (disch := omega) [-hset_if, -Bool.decide_and, hset_ne, h3.sl.lenK, invs, hy2, hz2]
  refine Executed_ok (g9'.srv.frameD (by omega) (fun i hi => by have := g9'.lt (.inl hi); rw [h2 i (by omega), e2 i (by omega), d2 i this])) ?_
  simp (disch := omega) [-hset_if, -Bool.decide_and, hset_ne]
  exact hr.fin rfl (by omega) (fun i hi => by rw [h2 i (by omega), e2 i (by omega), d2 i (by omega), f0 i hi])
end Go.Aw.S50
