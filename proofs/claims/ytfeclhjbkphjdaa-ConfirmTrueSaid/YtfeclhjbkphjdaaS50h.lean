/-
  Chapter 50: the law of the servers.
-/
import Derived.Test.YtfeclhjbkphjdaaS50g
namespace Go.Aw.S50
open Go.RowKit Go.Proofs Go.Aw.Tab
set_option linter.unusedSimpArgs false
set_option linter.unusedVariables false
set_option maxRecDepth 10000
set_option maxHeartbeats 2000000
set_option pp.deepTerms false
set_option pp.deepTerms.threshold 4
set_option pp.maxSteps 1500
attribute [local simp] Ans.cells Ask.cells Opn.cells rsC
variable {w0 : World} {n : Nat} {H : Heap} {K : Value → Nat → Heap → Prop} {pv : Value} {D : Nat → Prop} {l : List Opn}
theorem SvR.lt' {S M : Nat} {sv : Srv} {ms : List Ent} (h : SvR H n S M sv ms) {i : Nat} (hi : SvO S M ms i) : i < n := by
  obtain ⟨o1, o2, o3, o4⟩ := h.objs
  rcases hi with rfl | rfl | ⟨e, he, hi⟩
  · exact o2
  · exact o3
  · have := (o4 e he).2.2.2.2
    rcases hi with rfl | rfl <;> omega
theorem SvR.frameD {S M : Nat} {sv : Srv} {ms : List Ent} (h : SvR H n S M sv ms) {n' : Nat} {H' : Heap} (h1 : n ≤ n') (h2 : ∀ i, SvO S M ms i → H' i = H i) : SvR H' n' S M sv ms :=
  h.frameO h1 (h2 S (.inl rfl)) (h2 M (.inr (.inl rfl))) (fun e he => ⟨h2 _ (.inr (.inr ⟨e, he, .inl rfl⟩)), h2 _ (.inr (.inr ⟨e, he, .inr rfl⟩))⟩)
/-- Both servers, and what is said of them. -/
structure Both (H : Heap) (w0 : World) (n n1 S M T : Nat) (k : Nat) (sv : Srv) (ms : List Ent) (r : RSv) (DT : Nat → Prop) (v u : Value) (E F : Nat → Prop) : Prop where
  svr : SvR H n1 S M sv ms
  rs : RsR H w0 n1 T DT r v u E F
  few : Few k r
  lim : 0 ≤ r.limit
  ap : ∀ i, SvO S M ms i → ¬ DT i
  le : n ≤ n1
  so : ∀ i, SvO S M ms i → n ≤ i
  ro : ∀ i, DT i → n ≤ i
/-- Ways that meet: what follows is found where the first one ends. -/
theorem join3 {G : Prop} (P : Cx → Code → Post → Prop) (X : Cx) (c : Code) (Q : Post) (g : P X c Q → G) (h : P X c Q) : G := g h
theorem Both.lt {n1 S M T k : Nat} {sv : Srv} {ms : List Ent} {r : RSv} {DT E F : Nat → Prop} {v u : Value} (g : Both H w0 n n1 S M T k sv ms r DT v u E F) {i : Nat} (hi : SvO S M ms i ∨ DT i) : i < n1 := by
  rcases hi with hi | hi
  · exact g.svr.lt' hi
  · exact g.rs.dlt hi
theorem Both.fr {n1 S M T k : Nat} {sv : Srv} {ms : List Ent} {r : RSv} {DT E F : Nat → Prop} {v u : Value} (g : Both H w0 n n1 S M T k sv ms r DT v u E F) {n' : Nat} {H' : Heap} (h1 : n1 ≤ n') (h2 : ∀ i, SvO S M ms i ∨ DT i → H' i = H i) : Both H' w0 n n' S M T k sv ms r DT v u E F :=
  ⟨g.svr.frameD h1 (fun i hi => h2 i (.inl hi)), g.rs.frame h1 (fun i hi => h2 i (.inr hi)), g.few, g.lim, g.ap, by have := g.le; omega, g.so, g.ro⟩
theorem Both.sv' {n1 S M T k : Nat} {sv sv' : Srv} {ms ms' : List Ent} {r : RSv} {DT E F : Nat → Prop} {v u : Value} (g : Both H w0 n n1 S M T k sv ms r DT v u E F) {n' : Nat} {H' : Heap} (h1 : n1 ≤ n') (h2 : ∀ i, i < n1 → ¬ SvO S M ms i → H' i = H i) (h3 : ∀ i, SvO S M ms' i → SvO S M ms i ∨ n1 ≤ i) (h4 : SvR H' n' S M sv' ms') : Both H' w0 n n' S M T k sv' ms' r DT v u E F := by
  have hle := g.le
  refine ⟨h4, g.rs.frame h1 (fun i hi => h2 i (g.lt (.inr hi)) (fun y => g.ap i y hi)), g.few, g.lim, fun i hi y => ?_, by omega, fun i hi => ?_, g.ro⟩
  · rcases h3 i hi with z | z
    · exact g.ap i z y
    · have := g.lt (.inr y); omega
  · rcases h3 i hi with z | z
    · exact g.so i z
    · omega
theorem Both.rs' {n1 S M T k k' : Nat} {sv : Srv} {ms : List Ent} {r r' : RSv} {DT DT' E F E' F' : Nat → Prop} {v u v' u' : Value} (g : Both H w0 n n1 S M T k sv ms r DT v u E F) {n' : Nat} {H' : Heap} (h1 : n1 ≤ n') (h2 : ∀ i, i < n1 → ¬ DT i → H' i = H i) (h3 : ∀ i, DT' i → DT i ∨ n1 ≤ i) (h4 : RsR H' w0 n' T DT' r' v' u' E' F') (h5 : Few k' r') (h6 : r'.limit = r.limit) : Both H' w0 n n' S M T k' sv ms r' DT' v' u' E' F' := by
  have hle := g.le
  refine ⟨g.svr.frameD h1 (fun i hi => h2 i (g.lt (.inl hi)) (g.ap i hi)), h4, h5, by rw [h6]; exact g.lim, fun i hi y => ?_, by omega, g.so, fun i hi => ?_⟩
  · rcases h3 i y with z | z
    · exact g.ap i hi z
    · have := g.lt (.inl hi); omega
  · rcases h3 i hi with z | z
    · exact g.ro i z
    · omega
/-- What holds ahead of each call. -/
structure LI (H : Heap) (w0 : World) (n n1 S M T j : Nat) : Prop where
  ex : ∃ sv ms r DT v u E F, Both H w0 n n1 S M T j sv ms r DT v u E F ∧ Sim sv (memOf ms) r
theorem Servers_ok {b m : Int} (haw : ∀ K, K (.bool true) n H → ACall ⟨Try.prog, w0⟩ 9 [] K n H) (hs : SlR ⟨Try.prog, w0⟩ H D 11 Opn.cells pv l) (hD : ∀ i, D i → i < n) (hr : Res n H K (.bool true)) : ACall ⟨Try.prog, w0⟩ 3 [.int .i64 b, .int .i64 m, pv] K n H := by
  refine ACall.run Try.func3 rfl Try.ntmps3 Try.results3 (by simp) fun J0 => ?_
  simp (disch := omega) [-hset_if, -Bool.decide_and, hset_ne]
  refine haw _ ?_
  simp (disch := omega) [-hset_if, -Bool.decide_and, hset_ne]
  refine small_ok hs ?_
  simp (disch := omega) [-hset_if, -Bool.decide_and, hset_ne]
  refine cif_var (fun h0 => ?_) (fun h0 => ?_)
  rotate_left
  · simp (disch := omega) [-hset_if, -Bool.decide_and, hset_ne]
    exact hr.fin rfl (by omega) (fun i hi => by simp (disch := omega) only [hset_ne])
  have hl80 : l.length ≤ 80 := by unfold smallB at h0; simp at h0; omega
  simp (disch := omega) [-hset_if, -Bool.decide_and, hset_ne]
  refine NewServer_ok (fun hns n1 H1 a1 a2 => ?_) (fun hns n1 H1 S M a1 a2 a3 a4 hsv => ?_)
  · simp (disch := omega) [-hset_if, -Bool.decide_and, hset_ne]
    refine RNewServer_ok (fun _ n2 H2 b1 b2 => ?_) (fun h => absurd h hns)
    simp (disch := omega) [-hset_if, -Bool.decide_and, hset_ne]
    exact hr.fin rfl (by omega) (fun i hi => by rw [b2 i (by omega), a2 i hi])
  simp (disch := omega) [-hset_if, -Bool.decide_and, hset_ne]
  refine RNewServer_ok (fun h => absurd hns h) (fun _ n2 H2 T b1 b2 b3 hrs => ?_)
  simp (disch := omega) [-hset_if, -Bool.decide_and, hset_ne]
  refine AW.while (σ := Nat) (fun j => l.length - j) (fun j => [(2, pv), (7, .pointer (some ⟨new S, 0, none⟩)), (9, .pointer (some ⟨new T, 0, none⟩)), (11, .int .i64 (j : Int))])
    (fun j n3 H3 => j ≤ l.length ∧ (∀ i, i < n → H3 i = H i) ∧ LI H3 w0 n n3 S M T j) 0 ?_ ?_ ?_
  · simp (disch := omega) [-hset_if, -Bool.decide_and, hset_ne]
  · refine ⟨by omega, fun i hi => by rw [b2 i (by omega), a2 i hi], ⟨_, _, _, _, _, _, _, _, ⟨hsv.frameD b1 (fun i hi => b2 i (hsv.lt' hi)), hrs, ⟨by simp, by simp, by simp⟩, by unfold nsOk at hns; dsimp only; omega, fun i hi e => ?_, by omega, fun i hi => ?_, fun i hi => by omega⟩, Sim.new⟩⟩
    · have := hsv.lt' hi; omega
    · rcases hi with rfl | rfl | ⟨e, he, _⟩
      · exact a3
      · exact a4
      · simp at he
  rintro j n3 H3 ⟨g1, g2, ⟨sv, ms, r, DT, v, u, E, F, g3, g4⟩⟩
  have hle := g3.le
  have hfew := g3.few
  have hs3 : SlR ⟨Try.prog, w0⟩ H3 D 11 Opn.cells pv l := hs.frame (fun i hi => g2 i (hD i hi))
  simp (disch := omega) [-hset_if, -Bool.decide_and, hset_ne, hs3.lenK]
  refine cif_dec (fun c1 => ?_) (fun c1 => ?_)
  rotate_left
  · simp (disch := omega) [-hset_if, -Bool.decide_and, hset_ne]
    exact hr.fin rfl (by have := g3.le; omega) g2
  simp (disch := omega) [-hset_if, -Bool.decide_and, hset_ne, hs3.ix elemS22, hs3.load0 shp3, hs3.load shp3]
  refine cif_beq (fun c2 => ?_) (fun c2 => ?_)
  · simp (disch := omega) [-hset_if, -Bool.decide_and, hset_ne]
    generalize hx : handleP sv (memOf ms (at_ l (j : Int)).client) (at_ l (j : Int)).client (at_ l (j : Int)).ask = x
    apply join3 (fun X c Q => ∀ n5 H5 kx ms', (∀ i, i < n → H5 i = H i) → Both H5 w0 n n5 S M T j x.2 ms' r DT v u E F → (∀ c, memOf ms' c = memOf ms c) → n ≤ kx → kx < n5 → ¬ SvO S M ms' kx → ¬ DT kx →
      H5 kx = .cells x.1.1.cells 33 1 → AW X c Q n5 [(2, pv), (7, .pointer (some ⟨new S, 0, none⟩)), (9, .pointer (some ⟨new T, 0, none⟩)), (11, .int .i64 (j : Int)), (12, .pointer (some ⟨new kx, 0, none⟩)), (13, .bool x.1.2.1), (14, .int .i64 x.1.2.2)] H5)
    case g =>
      intro key
      have hSM := g3.svr.objs
      have hsv3 := fun i hi => g3.lt (i := i) (.inl hi)
      have hdt3 := fun i hi => g3.lt (i := i) (.inr hi)
      refine AW.draw (X := ⟨_, 157, _, _⟩) (id := 15) mixed (.take 0 <| .take 1 <| .take 2 <| .take 3 <| .take 4 <| .take 5 <| .take 6 <| .take 7 <| .take 8 <| .take 9 <| .take 10 <| .each 11 [] (.take 12 <| .take 13 <| .take 14 <| .take 15 <| .each 16 [12, 13, 14, 15] (.each 17 [14, 15] (.take 18 <| .take 19 <| .done) <| .stop) <| .stop) <| .each 16 [0, 1, 2, 3, 4, 5, 6, 7, 8, 9, 10] (.each 11 [] (.take 12 <| .take 13 <| .take 14 <| .take 15 <| .each 17 [14, 15] (.take 18 <| .take 19 <| .done) <| .stop) <| .stop) <| .stop) (by kernel_rfl) ?_
      simp (disch := omega) [-hset_if, -Bool.decide_and, hset_ne, hs3.ix elemS22, hs3.load0 shp3, hs3.load shp3, hs3.load shp35, hs3.fresh hD, hs3.fresh0 hD]
      refine ⟨?_, ?_⟩
      · refine Handle_ok (a := (at_ l (j : Int)).ask) g3.svr ?_
        rw [hx]
        intro n4 H4 ms4 d1 d2 d3 d4 d5
        have g5 := g3.sv' d1 (fun i hi hno => d2 i hi (fun e => hno (.inl e)) (fun e => hno (.inr (.inl e)))) d4 d5
        have hlt := fun i => g5.lt (i := i)
        simp (disch := omega) [-hset_if, -Bool.decide_and, hset_ne, hdV]
        refine AW.le ?_ (key (n4 + 1) _ n4 ms4 (fun i hi => ?_) (g5.fr (by omega) ?_) d3 (by omega) (by omega) (fun e => by have := hlt _ (.inl e); omega) (fun e => by have := hlt _ (.inr e); omega) ?_)
        · simp (disch := omega) [-hset_if, -Bool.decide_and, hset_ne]
        · rw [hset_ne (by omega), d2 i (by omega) (fun e => by have := g3.so S (.inl rfl); omega) (fun e => by have := g3.so M (.inr (.inl rfl)); omega)]
          exact g2 i hi
        · exact fun i hi => hset_ne (by have := hlt i hi; omega) _ _
        · rw [hset_same]; rfl
      · have g6 := g3.fr (n' := n3 + 1) (H' := hset n3 (.cells [.int .i64 0, .int .i64 0, .int .i64 0, .string ⟨#[]⟩] 33 1) H3) (by omega) (fun i hi => hset_ne (by have := g3.lt hi; omega) _ _)
        refine Handle_ok (a := (at_ l (j : Int)).ask) g6.svr ?_
        rw [hx]
        intro n4 H4 ms4 d1 d2 d3 d4 d5
        have g5 := g6.sv' d1 (fun i hi hno => d2 i hi (fun e => hno (.inl e)) (fun e => hno (.inr (.inl e)))) d4 d5
        have hno1 : ¬ SvO S M ms4 n3 := fun e => by
          rcases d4 _ e with z | z
          · have := hsv3 _ z; omega
          · omega
        have hno2 : ¬ DT n3 := fun e => by have := hdt3 _ e; omega
        have hbx : H4 n3 = .cells [.int .i64 0, .int .i64 0, .int .i64 0, .string ⟨#[]⟩] 33 1 := by
          rw [d2 n3 (by omega) (by omega) (by omega), hset_same]
        simp (disch := omega) [-hset_if, -Bool.decide_and, hset_ne, hdV, hbx]
        refine AW.le ?_ (key n4 _ n3 ms4 (fun i hi => ?_) (g5.fr (by omega) ?_) d3 (by omega) (by omega) hno1 hno2 ?_)
        · simp (disch := omega) [-hset_if, -Bool.decide_and, hset_ne]
        · rw [hset_ne (by omega), d2 i (by omega) (fun e => by have := g3.so S (.inl rfl); omega) (fun e => by have := g3.so M (.inr (.inl rfl)); omega), hset_ne (by omega)]
          exact g2 i hi
        · exact fun i hi => hset_ne (by rintro rfl; rcases hi with h | h; exact hno1 h; exact hno2 h) _ _
        · rw [hset_same]; rfl
    case h =>
      intro n5 H5 kx ms5 e1 g5 e3 e4 e5 e6 e7 e8
      have hs5 : SlR ⟨Try.prog, w0⟩ H5 D 11 Opn.cells pv l := hs.frame (fun i hi => e1 i (hD i hi))
      obtain ⟨hxy, hsim⟩ := g4.handle (at_ l (j : Int)).client (at_ l (j : Int)).ask
      rw [hx] at hxy hsim
      obtain ⟨hfw, hlm⟩ := hfew.handle (at_ l (j : Int)).client (at_ l (j : Int)).ask
      have hdt5 := fun i hi => g5.lt (i := i) (.inr hi)
      have hTd := (g5.rs.d T).2 (.inl rfl)
      have hf1 := hfew.ans
      have hf2 := hfew.floors
      generalize hy : rHandleP r (at_ l (j : Int)).client (at_ l (j : Int)).ask = y at hxy hsim hfw hlm
      have hle5 := g5.le
      obtain ⟨⟨x1, x2, x3⟩, x4⟩ := x
      obtain ⟨⟨y1, y2, y3⟩, y4⟩ := y
      dsimp only at hxy hsim g5 e8
      obtain ⟨i1, i2, i3⟩ : x1 = y1 ∧ x2 = y2 ∧ x3 = y3 := by simpa using hxy
      subst i1
      subst i2
      subst i3
      clear hxy
      dsimp only at hfw hlm ⊢
      refine AW.draw (X := ⟨_, 157, _, _⟩) (id := 16) mixed (.take 0 <| .take 1 <| .take 2 <| .take 3 <| .take 4 <| .take 5 <| .take 6 <| .take 7 <| .take 8 <| .take 9 <| .take 10 <| .each 11 [] (.take 12 <| .take 13 <| .take 14 <| .take 15 <| .each 16 [12, 13, 14, 15] (.each 17 [14, 15] (.take 18 <| .take 19 <| .done) <| .stop) <| .stop) <| .each 16 [0, 1, 2, 3, 4, 5, 6, 7, 8, 9, 10] (.each 11 [] (.take 12 <| .take 13 <| .take 14 <| .take 15 <| .each 17 [14, 15] (.take 18 <| .take 19 <| .done) <| .stop) <| .stop) <| .stop) (by kernel_rfl) ?_
      simp (disch := omega) [-hset_if, -Bool.decide_and, hset_ne, hs5.ix elemS22, hs5.load0 shp3, hs5.load shp3, hs5.load shp35, hs5.fresh hD, hs5.fresh0 hD]
      refine ⟨?_, ?_⟩
      · refine RHandle_ok (a := (at_ l (j : Int)).ask) g5.rs (by omega) (by omega) ?_
        rw [hy]
        intro n6 H6 d1 d2 d3
        have g6 := g5.rs' d1 (fun i hi hno => d2 i hi (fun e => hno (e ▸ hTd))) (fun i hi => .inl hi) d3 hfw hlm
        have hkx : H6 kx = .cells x1.cells 33 1 := by rw [d2 kx (by omega) (fun e => e7 (e ▸ hTd))]; exact e8
        simp (disch := omega) [-hset_if, -Bool.decide_and, hset_ne, hdV, hkx]
        generalize hH7 : hset n6 _ H6 = H7
        have f1 : ∀ i, i < n → H7 i = H i := by
          intro i hi
          rw [← hH7]
          rw [hset_ne (by omega), d2 i (by omega) (fun e => by have := g5.ro T hTd; omega)]
          exact e1 i hi
        have f2 := g6.fr (n' := (n6 + 1)) (H' := H7) (by omega) (by
          rw [← hH7]
          exact fun i hi => hset_ne (by have := g6.lt hi; omega) _ _)
        have f3 := hsim.congr e3
        have hT7 := f2.rs.self
        have hdn := f3.done
        refine AW.draw (X := ⟨_, 157, _, _⟩) (id := 23) mixed (.take 0 <| .take 2 <| .take 3 <| .take 4 <| .take 5 <| .each 1 [2, 3, 4, 5] (.take 6 <| .done) <| .stop) (by kernel_rfl) ?_
        simp (disch := omega) [-hset_if, -Bool.decide_and, hset_ne, hT7]
        refine Executed_ok f2.svr ?_
        simp (disch := omega) [-hset_if, -Bool.decide_and, hset_ne, hT7, hdn]
        exact Next.mk (j + 1) (by first | omega | (dsimp only; omega)) (by simp (disch := omega) [-hset_if, -Bool.decide_and, hset_ne]) ⟨by omega, f1, ⟨_, _, _, _, _, _, _, _, f2, f3⟩⟩
      · have g5' := g5.fr (n' := n5 + 1) (H' := hset n5 (.cells [.int .i64 0, .int .i64 0, .int .i64 0, .string ⟨#[]⟩] 33 1) H5) (by omega) (fun i hi => hset_ne (by have := g5.lt hi; omega) _ _)
        refine RHandle_ok (a := (at_ l (j : Int)).ask) g5'.rs (by omega) (by omega) ?_
        rw [hy]
        intro n6 H6 d1 d2 d3
        have g6 := g5'.rs' d1 (fun i hi hno => d2 i hi (fun e => hno (e ▸ hTd))) (fun i hi => .inl hi) d3 hfw hlm
        have hT5 : T < n5 := hdt5 T hTd
        have hbx : H6 n5 = .cells [.int .i64 0, .int .i64 0, .int .i64 0, .string ⟨#[]⟩] 33 1 := by
          rw [d2 n5 (by omega) (by omega), hset_same]
        have hkx : H6 kx = .cells x1.cells 33 1 := by rw [d2 kx (by omega) (fun e => e7 (e ▸ hTd)), hset_ne (by omega)]; exact e8
        simp (disch := omega) [-hset_if, -Bool.decide_and, hset_ne, hdV, hbx, hkx]
        generalize hH7 : hset n5 _ H6 = H7
        have f1 : ∀ i, i < n → H7 i = H i := by
          intro i hi
          rw [← hH7]
          rw [hset_ne (by omega), d2 i (by omega) (fun e => by have := g5.ro T hTd; omega), hset_ne (by omega)]
          exact e1 i hi
        have f2 := g6.fr (n' := n6) (H' := H7) (by omega) (by
          rw [← hH7]
          refine fun i hi => hset_ne ?_ _ _
          have : i < n5 := g5.lt hi
          omega)
        have f3 := hsim.congr e3
        have hT7 := f2.rs.self
        have hdn := f3.done
        refine AW.draw (X := ⟨_, 157, _, _⟩) (id := 23) mixed (.take 0 <| .take 2 <| .take 3 <| .take 4 <| .take 5 <| .each 1 [2, 3, 4, 5] (.take 6 <| .done) <| .stop) (by kernel_rfl) ?_
        simp (disch := omega) [-hset_if, -Bool.decide_and, hset_ne, hT7]
        refine Executed_ok f2.svr ?_
        simp (disch := omega) [-hset_if, -Bool.decide_and, hset_ne, hT7, hdn]
        exact Next.mk (j + 1) (by first | omega | (dsimp only; omega)) (by simp (disch := omega) [-hset_if, -Bool.decide_and, hset_ne]) ⟨by omega, f1, ⟨_, _, _, _, _, _, _, _, f2, f3⟩⟩
  · simp (disch := omega) [-hset_if, -Bool.decide_and, hset_ne]
    generalize hx : finP sv (at_ l (j : Int)).code (at_ l (j : Int)).data (memOf ms) = x
    have hfa := hfew.ans
    have hff := hfew.floors
    have hfd := hfew.done
    have hnewk : ¬ (sv.nowC = 0 ∧ sv.nowI = 0) → ∀ p ∈ (memOf ms sv.nowC).1, p.1 ≠ sv.nowI := fun hb => (g4.cur (by rw [g4.busy]; exact decide_eq_true hb)).2.2
    have hlenk : (memOf ms sv.nowC).1.length < 1000 := by
      rw [g4.mem]
      have := ofC_len r.ans sv.nowC
      omega
    have hdk : 0 ≤ sv.done ∧ sv.done < 1000 := by rw [← g4.done]; omega
    apply join3 (fun X c Q => ∀ n5 H5 kx ms', (∀ i, i < n → H5 i = H i) → Both H5 w0 n n5 S M T j x.2.1 ms' r DT v u E F → (∀ c, memOf ms' c = x.2.2 c) → n ≤ kx → kx < n5 → ¬ SvO S M ms' kx → ¬ DT kx →
      H5 kx = .cells x.1.1.cells 33 1 → AW X c Q n5 [(2, pv), (7, .pointer (some ⟨new S, 0, none⟩)), (9, .pointer (some ⟨new T, 0, none⟩)), (11, .int .i64 (j : Int)), (18, .pointer (some ⟨new kx, 0, none⟩)), (19, .int .i64 x.1.2)] H5)
    case g =>
      intro key
      have hsv3 := fun i hi => g3.lt (i := i) (.inl hi)
      have hdt3 := fun i hi => g3.lt (i := i) (.inr hi)
      refine AW.draw (X := ⟨_, 157, _, _⟩) (id := 19) mixed (.take 0 <| .take 1 <| .take 2 <| .take 3 <| .take 4 <| .take 5 <| .take 6 <| .take 7 <| .take 8 <| .take 9 <| .take 10 <| .each 11 [] (.take 12 <| .take 13 <| .take 14 <| .each 15 [12, 13, 14] (.each 16 [14] (.take 17 <| .done) <| .stop) <| .stop) <| .each 15 [0, 1, 2, 3, 4, 5, 6, 7, 8, 9, 10] (.each 11 [] (.take 12 <| .take 13 <| .take 14 <| .each 16 [14] (.take 17 <| .done) <| .stop) <| .stop) <| .stop) (by kernel_rfl) ?_
      simp (disch := omega) [-hset_if, -Bool.decide_and, hset_ne, hs3.ix elemS22, hs3.load0 shp3, hs3.load shp3, hs3.load shp26, hs3.load shp9, hs3.fresh hD, hs3.fresh0 hD]
      refine ⟨?_, ?_⟩
      · refine Finish_ok g3.svr hdk hlenk hnewk ?_
        rw [hx]
        intro n4 H4 ms4 d1 d2 d3 d4 d5
        have g5 := g3.sv' d1 d2 d4 d5
        have hlt := fun i => g5.lt (i := i)
        simp (disch := omega) [-hset_if, -Bool.decide_and, hset_ne, fnV]
        refine AW.le ?_ (key (n4 + 1) _ n4 ms4 (fun i hi => ?_) (g5.fr (by omega) ?_) d3 (by omega) (by omega) (fun e => by have := hlt _ (.inl e); omega) (fun e => by have := hlt _ (.inr e); omega) ?_)
        · simp (disch := omega) [-hset_if, -Bool.decide_and, hset_ne]
        · rw [hset_ne (by omega), d2 i (by omega) (fun e => by have := g3.so _ e; omega)]
          exact g2 i hi
        · exact fun i hi => hset_ne (by have := hlt i hi; omega) _ _
        · rw [hset_same]; rfl
      · have g6 := g3.fr (n' := n3 + 1) (H' := hset n3 (.cells [.int .i64 0, .int .i64 0, .int .i64 0, .string ⟨#[]⟩] 33 1) H3) (by omega) (fun i hi => hset_ne (by have := g3.lt hi; omega) _ _)
        refine Finish_ok g6.svr hdk hlenk hnewk ?_
        rw [hx]
        intro n4 H4 ms4 d1 d2 d3 d4 d5
        have g5 := g6.sv' d1 d2 d4 d5
        have hno0 : ¬ SvO S M ms n3 := fun e => by have := hsv3 _ e; omega
        have hno1 : ¬ SvO S M ms4 n3 := fun e => by
          rcases d4 _ e with z | z
          · exact hno0 z
          · omega
        have hno2 : ¬ DT n3 := fun e => by have := hdt3 _ e; omega
        have hbx : H4 n3 = .cells [.int .i64 0, .int .i64 0, .int .i64 0, .string ⟨#[]⟩] 33 1 := by
          rw [d2 n3 (by omega) hno0, hset_same]
        simp (disch := omega) [-hset_if, -Bool.decide_and, hset_ne, fnV, hbx]
        refine AW.le ?_ (key n4 _ n3 ms4 (fun i hi => ?_) (g5.fr (by omega) ?_) d3 (by omega) (by omega) hno1 hno2 ?_)
        · simp (disch := omega) [-hset_if, -Bool.decide_and, hset_ne]
        · rw [hset_ne (by omega), d2 i (by omega) (fun e => by have := g3.so _ e; omega), hset_ne (by omega)]
          exact g2 i hi
        · exact fun i hi => hset_ne (by rintro rfl; rcases hi with h | h; exact hno1 h; exact hno2 h) _ _
        · rw [hset_same]; rfl
    case h =>
      intro n5 H5 kx ms5 e1 g5 e3 e4 e5 e6 e7 e8
      have hs5 : SlR ⟨Try.prog, w0⟩ H5 D 11 Opn.cells pv l := hs.frame (fun i hi => e1 i (hD i hi))
      obtain ⟨hxy, hsim⟩ := g4.finish (by rw [← g4.limit]; exact g3.lim) (at_ l (j : Int)).code (at_ l (j : Int)).data
      rw [hx] at hxy hsim
      obtain ⟨hfw, hlm⟩ := hfew.finish (at_ l (j : Int)).code (at_ l (j : Int)).data
      have hdt5 := fun i hi => g5.lt (i := i) (.inr hi)
      have hTd := (g5.rs.d T).2 (.inl rfl)
      have hlim := g3.lim
      generalize hy : rFinP r (at_ l (j : Int)).code (at_ l (j : Int)).data = y at hxy hsim hfw hlm
      have hle5 := g5.le
      obtain ⟨⟨x1, x2⟩, x4, x5⟩ := x
      obtain ⟨⟨y1, y2⟩, y4⟩ := y
      dsimp only at hxy hsim g5 e8 e3
      obtain ⟨i1, i2⟩ : x1 = y1 ∧ x2 = y2 := by simpa using hxy
      subst i1
      subst i2
      clear hxy
      dsimp only at hfw hlm ⊢
      refine AW.draw (X := ⟨_, 157, _, _⟩) (id := 20) mixed (.take 0 <| .take 1 <| .take 2 <| .take 3 <| .take 4 <| .take 5 <| .take 6 <| .take 7 <| .take 8 <| .take 9 <| .take 10 <| .each 11 [] (.take 12 <| .take 13 <| .take 14 <| .each 15 [12, 13, 14] (.each 16 [14] (.take 17 <| .done) <| .stop) <| .stop) <| .each 15 [0, 1, 2, 3, 4, 5, 6, 7, 8, 9, 10] (.each 11 [] (.take 12 <| .take 13 <| .take 14 <| .each 16 [14] (.take 17 <| .done) <| .stop) <| .stop) <| .stop) (by kernel_rfl) ?_
      simp (disch := omega) [-hset_if, -Bool.decide_and, hset_ne, hs5.ix elemS22, hs5.load0 shp3, hs5.load shp3, hs5.load shp26, hs5.load shp9, hs5.fresh hD, hs5.fresh0 hD]
      refine ⟨?_, ?_⟩
      · refine RFinish_ok g5.rs (by omega) (by omega) (by omega) hlim ?_
        rw [hy]
        intro n6 H6 D6 v6 u6 E6 F6 d1 d2 d3 d4
        have g6 := g5.rs' d1 d2 d3 d4 hfw hlm
        have hkx : H6 kx = .cells x1.cells 33 1 := by rw [d2 kx (by omega) e7]; exact e8
        simp (disch := omega) [-hset_if, -Bool.decide_and, hset_ne, fnV, hkx]
        generalize hH7 : hset n6 _ H6 = H7
        have f1 : ∀ i, i < n → H7 i = H i := by
          intro i hi
          rw [← hH7]
          rw [hset_ne (by omega), d2 i (by omega) (fun e => by have := g5.ro _ e; omega)]
          exact e1 i hi
        have f2 := g6.fr (n' := (n6 + 1)) (H' := H7) (by omega) (by
          rw [← hH7]
          exact fun i hi => hset_ne (by have := g6.lt hi; omega) _ _)
        have f3 := hsim.congr e3
        have hT7 := f2.rs.self
        have hdn := f3.done
        refine AW.draw (X := ⟨_, 157, _, _⟩) (id := 23) mixed (.take 0 <| .take 2 <| .take 3 <| .take 4 <| .take 5 <| .each 1 [2, 3, 4, 5] (.take 6 <| .done) <| .stop) (by kernel_rfl) ?_
        simp (disch := omega) [-hset_if, -Bool.decide_and, hset_ne, hT7]
        refine Executed_ok f2.svr ?_
        simp (disch := omega) [-hset_if, -Bool.decide_and, hset_ne, hT7, hdn]
        exact Next.mk (j + 1) (by first | omega | (dsimp only; omega)) (by simp (disch := omega) [-hset_if, -Bool.decide_and, hset_ne]) ⟨by omega, f1, ⟨_, _, _, _, _, _, _, _, f2, f3⟩⟩
      · have g5' := g5.fr (n' := n5 + 1) (H' := hset n5 (.cells [.int .i64 0, .int .i64 0, .int .i64 0, .string ⟨#[]⟩] 33 1) H5) (by omega) (fun i hi => hset_ne (by have := g5.lt hi; omega) _ _)
        refine RFinish_ok g5'.rs (by omega) (by omega) (by omega) hlim ?_
        rw [hy]
        intro n6 H6 D6 v6 u6 E6 F6 d1 d2 d3 d4
        have g6 := g5'.rs' d1 d2 d3 d4 hfw hlm
        have hno2 : ¬ DT n5 := fun e => by have := hdt5 _ e; omega
        have hbx : H6 n5 = .cells [.int .i64 0, .int .i64 0, .int .i64 0, .string ⟨#[]⟩] 33 1 := by
          rw [d2 n5 (by omega) hno2, hset_same]
        have hkx : H6 kx = .cells x1.cells 33 1 := by rw [d2 kx (by omega) e7, hset_ne (by omega)]; exact e8
        simp (disch := omega) [-hset_if, -Bool.decide_and, hset_ne, fnV, hbx, hkx]
        generalize hH7 : hset n5 _ H6 = H7
        have f1 : ∀ i, i < n → H7 i = H i := by
          intro i hi
          rw [← hH7]
          rw [hset_ne (by omega), d2 i (by omega) (fun e => by have := g5.ro _ e; omega), hset_ne (by omega)]
          exact e1 i hi
        have f2 := g6.fr (n' := n6) (H' := H7) (by omega) (by
          rw [← hH7]
          refine fun i hi => hset_ne ?_ _ _
          rintro rfl
          rcases hi with hi | hi
          · have : i < i := g5.lt (.inl hi)
            omega
          · rcases d3 _ hi with z | z
            · exact hno2 z
            · omega)
        have f3 := hsim.congr e3
        have hT7 := f2.rs.self
        have hdn := f3.done
        refine AW.draw (X := ⟨_, 157, _, _⟩) (id := 23) mixed (.take 0 <| .take 2 <| .take 3 <| .take 4 <| .take 5 <| .each 1 [2, 3, 4, 5] (.take 6 <| .done) <| .stop) (by kernel_rfl) ?_
        simp (disch := omega) [-hset_if, -Bool.decide_and, hset_ne, hT7]
        refine Executed_ok f2.svr ?_
        simp (disch := omega) [-hset_if, -Bool.decide_and, hset_ne, hT7, hdn]
        exact Next.mk (j + 1) (by first | omega | (dsimp only; omega)) (by simp (disch := omega) [-hset_if, -Bool.decide_and, hset_ne]) ⟨by omega, f1, ⟨_, _, _, _, _, _, _, _, f2, f3⟩⟩
end Go.Aw.S50
