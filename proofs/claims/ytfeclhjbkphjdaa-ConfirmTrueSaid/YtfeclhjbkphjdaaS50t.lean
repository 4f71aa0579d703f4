/-
  Chapter 50: a step of a run.
-/
import Derived.Test.YtfeclhjbkphjdaaS50s
namespace Go.Aw.S50
open Go.RowKit Go.Proofs Go.Aw.Tab
set_option linter.unusedSimpArgs false
set_option linter.unusedVariables false
set_option maxRecDepth 10000
set_option maxHeartbeats 2000000
set_option pp.deepTerms false
set_option pp.deepTerms.threshold 4
set_option pp.maxSteps 1500
variable {w0 : World} {n : Nat} {H : Heap} {K : Value → Nat → Heap → Prop}
attribute [local simp] Ans.cells Ask.cells Opn.cells Wt.cells Qt.cells intC NS.cells
/-- Which one of so many is meant. -/
def ixW (which : Int) (len : Nat) : Nat := ((which.tdiv 2) % 18446744073709551616 % (len : Int)).toNat
theorem NetR.rb {n0 N : Nat} {col : Nat → Nat} {s : NS} (g : NetR H w0 n0 n N col s) {n' : Nat} {H' : Heap} (h1 : n ≤ n') (fr : ∀ i, i < n → i ≠ N → H' i = H i) {S' M' : Nat} {sv' : Srv} {b : Int} (hS : n ≤ S') (hM : n ≤ M') (hsv : SvR H' n' S' M' sv' []) (hself : H' N = .cells ({ s with S := S', M := M', sv := sv', ms := [], boot := b } : NS).cells 79 1) :
    NetR H' w0 n0 n' N (ext n 2 col) { s with S := S', M := M', sv := sv', ms := [], boot := b } := by
  have hle := g.le
  have f : ∀ j i, j ≠ 0 → s.own N j i → H' i = H i := fun j i h0 h => fr i (g.cl j i h).2 (by rintro rfl; have := (g.cl j i h).1; rw [g.N0.1] at this; omega)
  have hso : ∀ i, SvO S' M' [] i → n ≤ i ∧ i < n' := fun i hi => by
    have := hsv.lt' hi
    rcases hi with rfl | rfl | ⟨e, he, _⟩
    · exact ⟨hS, this⟩
    · exact ⟨hM, this⟩
    · simp at he
  refine ⟨hself, g.cli.frame h1 (fun i hi => f 1 i (by omega) hi), hsv, g.ak.frame h1 (fun i hi => f 3 i (by omega) hi), g.an.frame h1 (fun i hi => f 4 i (by omega) hi), g.gv.frame h1 (fun i hi => f 5 i (by omega) hi), g.mp.frame (f 6 s.X (by omega) rfl), fun j i h => ?_, fun i hi => ?_, by omega⟩
  · by_cases hj : j = 2
    · subst hj
      have := hso i h
      refine ⟨?_, this.2⟩
      unfold ext
      rw [if_neg (by omega)]
    · have h' : s.own N j i := by
        match j, hj with
        | 0, _ => exact h
        | 1, _ => exact h
        | 3, _ => exact h
        | 4, _ => exact h
        | 5, _ => exact h
        | 6, _ => exact h
        | j + 7, _ => exact h.elim
      obtain ⟨a, b⟩ := g.cl j i h'
      refine ⟨?_, by omega⟩
      unfold ext
      rw [if_pos b]; exact a
  · unfold ext
    rw [if_pos (by omega)]; exact g.lo i hi
theorem u64w (x : Int) : IntKind.u64.wrap x = x % 18446744073709551616 := by
  simp [IntKind.wrap, IntKind.bits, IntKind.signed]
theorem i64w {x : Int} (h1 : -9223372036854775808 ≤ x) (h2 : x < 9223372036854775808) : IntKind.i64.wrap x = x := wrap64 h1 h2
theorem tdiv_b {x : Int} (h : -9223372036854775808 ≤ x ∧ x ≤ 9223372036854775807) : -9223372036854775808 ≤ x.tdiv 2 ∧ x.tdiv 2 < 9223372036854775808 := by
  by_cases h0 : 0 ≤ x
  · rw [Int.tdiv_eq_ediv_of_nonneg h0]; omega
  · have e : x.tdiv 2 = -((-x).tdiv 2) := by rw [Int.neg_tdiv]; omega
    rw [e, Int.tdiv_eq_ediv_of_nonneg (by omega)]; omega
theorem ix_eq {which : Int} {len : Nat} (h0 : 0 < len) (h1 : len ≤ 1000000) (hw : -9223372036854775808 ≤ which ∧ which ≤ 9223372036854775807) :
    ¬ IntKind.u64.wrap (len : Int) = 0 ∧ IntKind.i64.wrap ((IntKind.u64.wrap (IntKind.i64.wrap (which.tdiv 2))).tmod (IntKind.u64.wrap (len : Int))) = (ixW which len : Int) ∧ ixW which len < len := by
  have hl : IntKind.u64.wrap (len : Int) = len := by rw [u64w]; omega
  have hd := tdiv_b hw
  rw [hl, i64w hd.1 hd.2, u64w]
  have hm : 0 ≤ (which.tdiv 2) % 18446744073709551616 := by omega
  rw [Int.tmod_eq_emod_of_nonneg hm]
  unfold ixW
  have a1 : 0 ≤ (which.tdiv 2) % 18446744073709551616 % (len : Int) := Int.emod_nonneg _ (by omega)
  have a2 : (which.tdiv 2) % 18446744073709551616 % (len : Int) < len := Int.emod_lt_of_pos _ (by omega)
  refine ⟨by omega, ?_, by omega⟩
  rw [i64w (by omega) (by omega)]
  omega
def sendN (p : NP) (data : ByteArray) : NP :=
  if (sendP p.c data).1.2 = 0 then { p with c := (sendP p.c data).2, asks := p.asks ++ [(sendP p.c data).1.1], data := p.data ++ [((sendP p.c data).1.1.inv, data)] } else { p with c := (sendP p.c data).2 }
def tickN (p : NP) : NP := { p with c := (tickP p.c).2, asks := p.asks ++ (tickP p.c).1 }
def handN (p : NP) (a : Ans) : NP := { p with c := (handC p.c a).2, asks := p.asks ++ (handC p.c a).1 }
def rebootN (p : NP) : NP := { p with sv := ⟨p.boot + 1, 2, 0, 0, 0⟩, m := fun _ => ([], 0), boot := p.boot + 1 }
def cut {α : Type} (l : List α) (i : Nat) : List α := l.take i ++ l.drop (i + 1)
def askN (p : NP) (kind which : Int) : NP :=
  if p.asks = [] then p else
    let p1 := if which.tmod 2 = 0 then { p with asks := cut p.asks (ixW which p.asks.length) } else p
    if kind = 2 then serveP p1 (at_ p.asks (ixW which p.asks.length : Int)) else p1
def ansN (p : NP) (kind which : Int) : NP :=
  if p.answers = [] then p else
    let p1 := if which.tmod 2 = 0 then { p with answers := cut p.answers (ixW which p.answers.length) } else p
    if kind = 3 then handN p1 (at_ p.answers (ixW which p.answers.length : Int)) else p1
/-- A step. -/
def stepP (p : NP) (kind which : Int) (data : ByteArray) : NP :=
  if kind = 0 then sendN p data
  else if kind = 1 then tickN p
  else if kind = 2 ∨ kind = 4 then askN p kind which
  else if kind = 3 ∨ kind = 5 then ansN p kind which
  else if kind = 6 then rebootN p
  else p
/-- What a run shows is small. -/
structure Fit (p : NP) (k : Nat) : Prop where
  c : COk p.c k
  done : 0 ≤ p.sv.done ∧ p.sv.done ≤ k
  mem : ∀ c, (p.m c).1.length ≤ k
  asks : p.asks.length ≤ 20 * k
  answers : p.answers.length ≤ k
  given : p.given.length ≤ k
  small : ∀ a ∈ p.asks, a.data.size ≤ 400
  opn : ∀ w ∈ p.c.opn, w.data.size ≤ 400
  boot : 1 ≤ p.boot ∧ p.boot ≤ 1 + k
  keys : ∀ q ∈ p.data, q.1 ≤ p.c.sent
theorem step_ok {n0 N k : Nat} {p : NP} {kind which : Int} {data : ByteArray} (h : NetX H w0 n0 n N p) (hf : Fit p k) (hk1000 : k ≤ 700) (hw : -9223372036854775808 ≤ which ∧ which ≤ 9223372036854775807)
    (hk : ∀ n' H', n ≤ n' → (∀ i, i < n0 → H' i = H i) → NetX H' w0 n0 n' N (stepP p kind which data) → K (.bool true) n' H') : ACall ⟨Try.prog, w0⟩ 33 [.pointer (some ⟨new N, 0, none⟩), .int .i64 kind, .int .i64 which, .string data] K n H := by
  obtain ⟨col, s, g, rfl⟩ := h
  have hle := g.le
  have hN := g.N0
  have hself := g.self
  obtain ⟨hc, hdone, hmem, hasks, hans, hgiv, hsmall, hopn, hboot, hkeys⟩ := hf
  dsimp only [NS.p] at hc hdone hmem hasks hans hgiv hsmall hopn hboot hkeys
  have hc1 := hc.len
  have hc2 := hc.most
  have hc3 := hc.sent
  unfold stepP at hk
  refine ACall.run Try.func33 rfl Try.ntmps33 Try.results33 (by simp) fun J0 => ?_
  simp (disch := omega) [-hset_if, -Bool.decide_and, hset_ne]
  refine cif_beq (fun k0 => ?_) (fun k0 => ?_)
  · rw [if_pos k0] at hk
    unfold sendN at hk
    simp (disch := omega) [-hset_if, -Bool.decide_and, hset_ne, hself]
    refine Send_ok g.cli (by omega) ?_
    intro n1 H1 D1 P1 v1 u1 E1 F1 d1 d2 d3 d4
    have g1 := g.clS d1 d2 d3 d4
    have f1 : ∀ i, i < n0 → H1 i = H i := fun i hi => d2 i (by omega) (fun y => by have := (g.colD y).1; have := g.lo i hi; omega)
    have hx : sendP s.p.c data = sendP s.c data := rfl
    rw [hx] at hk
    have hx0 : (sendP s.c data).1.2 = 0 → (sendP s.c data).1.1.inv = s.c.sent + 1 := fun e => by
      unfold sendP at e ⊢
      split at e
      · simp at e
      split at e
      · simp at e
      rename_i q1 q2
      rw [if_neg q1, if_neg q2]; rfl
    generalize hxx : sendP s.c data = x at *
    simp (disch := omega) [-hset_if, -Bool.decide_and, hset_ne, skV]
    have g2 := g1.al (n' := n1 + 1) (H' := hset n1 (.cells [.int .i64 x.1.1.boot, .int .i64 x.1.1.inv, .string x.1.1.data] 35 1) H1) (by omega) (fun i hi _ => hset_ne (by omega) _ _)
    generalize hH2 : hset n1 _ H1 = H2 at *
    have hx2 : H2 n1 = .cells [.int .i64 x.1.1.boot, .int .i64 x.1.1.inv, .string x.1.1.data] 35 1 := by rw [← hH2, hset_same]
    have f2 : ∀ i, i < n0 → H2 i = H i := fun i hi => by rw [← hH2, hset_ne (by omega), f1 i hi]
    clear hH2
    have hk2 : ext n1 7 (ext n 1 col) n1 = 7 := by unfold ext; rw [if_neg (by omega)]
    generalize ext n1 7 (ext n 1 col) = col2 at *
    refine cif_beq (fun b1 => ?_) (fun b1 => ?_)
    · rw [if_pos b1] at hk
      have hself2 := g2.self
      have hN2 := g2.N0
      simp (disch := omega) [-hset_if, -Bool.decide_and, hset_ne]
      refine AW.draw (X := ⟨_, 210, _, _⟩) (id := 5) mixed (.take 0 <| .take 1 <| .take 2 <| .take 3 <| .take 4 <| .take 5 <| .each 6 [0, 1, 2, 3, 4] (.each 7 [0] (.take 8 <| .take 9 <| .each 10 [] (.done) <| .stop) <| .stop) <| .stop) (by kernel_rfl) ?_
      simp (disch := omega) [-hset_if, -Bool.decide_and, hset_ne, hself2, hx2]
      refine g2.ak.push elemS60 zero35 (by simp) x.1.1 rfl rfl rfl (by first | omega | (dsimp only; omega)) (by first | omega | (dsimp only; omega)) ?_
      intro va3 n3 H3 A3 p1 p2 p3 p4 p5
      have e3 : H3 N = H2 N := p3 N (by omega) (fun y => by have := (g2.colA y).1; omega)
      rw [hself2] at e3
      have hx3 : H3 n1 = .cells [.int .i64 x.1.1.boot, .int .i64 x.1.1.inv, .string x.1.1.data] 35 1 := by rw [p3 n1 (by omega) (fun y => by have := (g2.colA y).1; omega)]; exact hx2
      simp (disch := omega) [-hset_if, -Bool.decide_and, hset_ne, e3, p5.sl.cells, p5.sl.one]
      have g4 := g2.asS (n' := n3) (H' := hset N (.cells [.pointer (some ⟨new s.C, 0, none⟩), .pointer (some ⟨new s.S, 0, none⟩), .int .i64 s.boot, va3, s.vb, s.vg, .map (some (new s.X))] 79 1) H3) (by omega) (fun i hi hG hN => by rw [hset_ne hN, p3 i (by omega) hG]) (hset_same _ _ _) (fun i hi => by rcases p4 i hi with z | z; exact .inl z; exact .inr (by omega)) (p5.frame (Nat.le_refl _) (fun i hi => hset_ne (by rintro rfl; rcases p4 _ hi with z | z; have := (g2.colA z).1; omega; omega) _ _))
      generalize hH4 : hset N _ H3 = H4 at *
      have hx4 : H4 n1 = .cells [.int .i64 x.1.1.boot, .int .i64 x.1.1.inv, .string x.1.1.data] 35 1 := by rw [← hH4, hset_ne (by rintro rfl; omega)]; exact hx3
      have f4 : ∀ i, i < n0 → H4 i = H i := fun i hi => by
        have := g2.lo i hi
        rw [← hH4, hset_ne (by rintro rfl; omega), p3 i (by omega) (fun y => by have := (g2.colA y).1; omega), f2 i hi]
      clear hH4
      have hself4 := g4.self
      refine AW.draw (X := ⟨_, 210, _, _⟩) (id := 6) mixed (.take 0 <| .take 1 <| .take 2 <| .take 3 <| .take 4 <| .take 5 <| .take 6 <| .each 7 [] (.done) <| .stop) (by kernel_rfl) ?_
      simp (disch := omega) [-hset_if, -Bool.decide_and, hset_ne, hself4, hx4]
      have hmp4 := g4.mp
      refine MapG.add (f := intK) (x := x.1.1.inv) hmp4 keyI (fun q hq => ?_) mapT77 keysI ?_
      · obtain ⟨r, hr, rfl⟩ := List.mem_map.1 hq
        have := hkeys r hr
        have := hx0 b1
        simp only [dtV]
        omega
      intro o ho
      have ho' : MapG intK (hset s.X o H4) s.X ((s.data ++ [(x.1.1.inv, data)]).map dtV) := by rw [List.map_append]; exact ho
      have g5 := g4.mpS ho'
      simp (disch := omega) [-hset_if, -Bool.decide_and, hset_ne]
      refine Fin_id ?_
      refine hk _ _ (by omega) (fun i hi => ?_) ⟨_, _, g5, rfl⟩
      have := g4.lo i hi
      rw [hset_ne (by rintro rfl; have := g4.colX.1; dsimp only at this; omega), f4 i hi]
    · rw [if_neg b1] at hk
      simp (disch := omega) [-hset_if, -Bool.decide_and, hset_ne]
      refine Fin_id ?_
      exact hk _ _ (by omega) f2 ⟨_, _, g2, rfl⟩
  · rw [if_neg k0] at hk
    simp (disch := omega) [-hset_if, -Bool.decide_and, hset_ne]
    refine cif_beq (fun k1 => ?_) (fun k1 => ?_)
    · rw [if_pos k1] at hk
      unfold tickN at hk
      have hnc := hc.nc
      unfold ncOk at hnc
      simp (disch := omega) [-hset_if, -Bool.decide_and, hset_ne]
      refine AW.draw (X := ⟨_, 210, _, _⟩) (id := 8) mixed (.take 0 <| .take 1 <| .take 2 <| .take 3 <| .take 4 <| .take 5 <| .take 6 <| .take 7 <| .take 8 <| .each 9 [0, 1, 2, 3, 4] (.each 10 [0] (.take 11 <| .take 12 <| .each 13 [] (.done) <| .stop) <| .stop) <| .stop) (by kernel_rfl) ?_
      simp (disch := omega) [-hset_if, -Bool.decide_and, hset_ne, hself]
      refine Tick_ok g.cli (by omega) (by omega) (fun w hw => by have := hc.wt w hw; omega) ?_
      intro n1 H1 D1 P1 v1 u1 E1 F1 x1 G1 d1 d2 d3 d4 d5 d6
      have g1 := g.clS d1 d2 d3 d4
      have f1 : ∀ i, i < n0 → H1 i = H i := fun i hi => d2 i (by omega) (fun y => by have := (g.colD y).1; have := g.lo i hi; omega)
      have hself1 := g1.self
      have hN1 := g1.N0
      have hx : tickP s.p.c = tickP s.c := rfl
      rw [hx] at hk
      have hxl : (tickP s.c).1.length ≤ s.c.opn.length := by unfold tickP tkA; exact List.length_filterMap_le _ _
      generalize tickP s.c = x at *
      simp (disch := omega) [-hset_if, -Bool.decide_and, hset_ne, hself1]
      refine g1.ak.appendS elemS60 zero35 rfl d5.sl (fun _ _ => rfl) (by first | omega | (dsimp only; omega)) (by first | omega | (dsimp only; omega)) ?_
      intro va3 n3 H3 A3 p1 p2 p3 p4 p5
      have e3 : H3 N = H1 N := p3 N (by omega) (fun y => by have := (g1.colA y).1; omega)
      rw [hself1] at e3
      simp (disch := omega) [-hset_if, -Bool.decide_and, hset_ne, e3, p5.sl.cells, p5.sl.one]
      refine Fin_id ?_
      have g4 := g1.asS (n' := n3) (H' := hset N (.cells [.pointer (some ⟨new s.C, 0, none⟩), .pointer (some ⟨new s.S, 0, none⟩), .int .i64 s.boot, va3, s.vb, s.vg, .map (some (new s.X))] 79 1) H3) (by omega) (fun i hi hG hN => by rw [hset_ne hN, p3 i (by omega) hG]) (hset_same _ _ _) (fun i hi => by rcases p4 i hi with z | z; exact .inl z; exact .inr (by omega)) (p5.frame (Nat.le_refl _) (fun i hi => hset_ne (by rintro rfl; rcases p4 _ hi with z | z; have := (g1.colA z).1; omega; omega) _ _))
      refine hk _ _ (by omega) (fun i hi => ?_) ⟨_, _, g4, rfl⟩
      have := g1.lo i hi
      rw [hset_ne (by rintro rfl; omega), p3 i (by omega) (fun y => by have := (g1.colA y).1; omega), f1 i hi]
    rw [if_neg k1] at hk
    simp (disch := omega) [-hset_if, -Bool.decide_and, hset_ne]
    refine cif_beq (fun k2 => ?_) (fun k2 => ?_)
    · rw [if_pos (.inl k2)] at hk
      subst k2
      unfold askN at hk
      simp (disch := omega) [-hset_if, -Bool.decide_and, hset_ne, hself, g.ak.sl.lenK]
      refine cif_beq (fun b1 => ?_) (fun b1 => ?_)
      · have he : s.asks = [] := List.eq_nil_of_length_eq_zero (by omega)
        rw [if_pos (show s.p.asks = [] from he)] at hk
        simp (disch := omega) [-hset_if, -Bool.decide_and, hset_ne]
        refine Fin_id ?_
        exact hk _ _ (Nat.le_refl _) (fun _ _ => rfl) ⟨_, _, g, rfl⟩
      rw [if_neg (show ¬ s.p.asks = [] from fun e => b1 (by have e : s.asks = [] := e; rw [e]; rfl))] at hk
      simp (disch := omega) [-hset_if, -Bool.decide_and, hset_ne, hself, g.ak.sl.lenK]
      obtain ⟨w1, w2, w3⟩ := ix_eq (which := which) (len := s.asks.length) (by omega) (by omega) hw
      rw [w2]
      refine ⟨w1, ?_⟩
      have hi : (ixW which s.p.asks.length : Int) = ixW which s.asks.length := rfl
      rw [hi] at hk
      have hi2 : ixW which s.p.asks.length = ixW which s.asks.length := rfl
      rw [hi2] at hk
      have hal : at_ s.p.asks (ixW which s.asks.length : Int) = at_ s.asks (ixW which s.asks.length : Int) := rfl
      rw [hal] at hk
      generalize hjj : ixW which s.asks.length = j at *
      have hat := hsmall _ (at_mem w3)
      simp (disch := omega) [-hset_if, -Bool.decide_and, hset_ne, g.ak.sl.ix elemS60, hself, g.ak.sl.load0 shp35]
      generalize hae : at_ s.asks (j : Int) = a at *
      have g1 := g.al (n' := n + 1) (H' := hset n (.cells [.int .i64 a.boot, .int .i64 a.inv, .string a.data] 35 1) H) (by omega) (fun i hi _ => hset_ne (by omega) _ _)
      generalize hH1 : hset n _ H = H1 at *
      have ha1 : H1 n = .cells [.int .i64 a.boot, .int .i64 a.inv, .string a.data] 35 1 := by rw [← hH1, hset_same]
      have f1 : ∀ i, i < n0 → H1 i = H i := fun i hi => by rw [← hH1, hset_ne (by omega)]
      clear hH1
      have hk1 : ext n 7 col n = 7 := by unfold ext; rw [if_neg (by omega)]
      generalize ext n 7 col = col1 at *
      have hself1 := g1.self
      have hN1 := g1.N0
      refine cif_beq (fun b3 => ?_) (fun b3 => ?_)
      · rw [if_pos b3] at hk
        simp (disch := omega) [-hset_if, -Bool.decide_and, hset_ne]
        refine AW.draw (X := ⟨_, 210, _, _⟩) (id := 16) mixed (.take 0 <| .take 2 <| .take 3 <| .take 4 <| .take 5 <| .take 6 <| .take 7 <| .take 9 <| .take 10 <| .take 11 <| .take 12 <| .take 13 <| .take 14 <| .take 15 <| .each 1 [0, 2, 3, 4, 5, 6, 7, 9, 10, 11, 12, 13, 14, 15] (.each 8 [0, 9, 10, 11, 12, 13, 14, 15] (.each 16 [0] (.take 17 <| .take 18 <| .each 19 [] (.done) <| .stop) <| .stop) <| .stop) <| .stop) (by kernel_rfl) ?_
        simp (disch := omega) [-hset_if, -Bool.decide_and, hset_ne, hself1]
        refine g1.ak.sl.head tk60 elemS60 (j := j) (by omega) ?_
        intro y1 hy1
        simp (disch := omega) [-hset_if, -Bool.decide_and, hset_ne, hself1]
        have cast1 : ((j : Int) + 1) = ((j + 1 : Nat) : Int) := by omega
        rw [cast1]
        refine g1.ak.sl.tail tk60 elemS60 (j := j + 1) (by omega) ?_
        intro y2 hy2
        simp (disch := omega) [-hset_if, -Bool.decide_and, hset_ne, hself1]
        have hE0 : ∀ i, s.A i → i < n + 1 := fun i hi => (g1.colA hi).2
        have hy1' : SlR ⟨Try.prog, w0⟩ (hset (n + 1) (.cells [] 35 3) H1) s.A 3 Ask.cells y1 (s.asks.take j) := hy1.frame (fun i hi => hset_ne (by have := hE0 i hi; omega) _ _)
        refine (OwR.empty (C := ⟨Try.prog, w0⟩) (f := Ask.cells) (T := 35) (sz := 3) (n := n + 1 + 1) (j := n + 1) (H := hset (n + 1) (.cells [] 35 3) H1) (by omega) (by omega) (hset_same _ _ _)).appendS elemS60 zero35 rfl hy1' (fun _ _ => rfl) (by simp; omega) (by simp; omega) ?_
        intro v5 n5 H5 E5 q1 q2 q3 q4 q5
        have hfr5 : ∀ i, i < n + 1 → H5 i = H1 i := fun i hi => by rw [q3 i (by omega) (by omega), hset_ne (by omega)]
        have hT5 := hfr5 N (by omega)
        rw [hself1] at hT5
        have hy2' : SlR ⟨Try.prog, w0⟩ H5 s.A 3 Ask.cells y2 (s.asks.drop (j + 1)) := hy2.frame (fun i hi => hfr5 i (hE0 i hi))
        simp (disch := omega) [-hset_if, -Bool.decide_and, hset_ne, hT5]
        refine q5.appendS elemS60 zero35 rfl hy2' (fun _ _ => rfl) (by simp; omega) (by simp; omega) ?_
        intro v6 n6 H6 E6 z1 z2 z3 z4 z5
        have hE5 : ∀ i, E5 i → n + 1 ≤ i := fun i hi => by rcases q4 i hi with v | v <;> omega
        have hE6 : ∀ i, E6 i → n + 1 ≤ i := fun i hi => by rcases z4 i hi with v | v; exact hE5 i v; omega
        have hfr6 : ∀ i, i < n + 1 → H6 i = H1 i := fun i hi => by rw [z3 i (by omega) (fun y => by have := hE5 i y; omega)]; exact hfr5 i hi
        have e6 := hfr6 N (by omega)
        rw [hself1] at e6
        have hcut : s.asks.take j ++ s.asks.drop (j + 1) = cut s.asks j := rfl
        rw [List.nil_append, hcut] at z5
        have ha6 : H6 n = .cells [.int .i64 a.boot, .int .i64 a.inv, .string a.data] 35 1 := by rw [hfr6 n (by omega)]; exact ha1
        simp (disch := omega) [-hset_if, -Bool.decide_and, hset_ne, e6, z5.sl.cells, z5.sl.one, ha6]
        have g7 := g1.asS (n' := n6) (H' := hset N (.cells [.pointer (some ⟨new s.C, 0, none⟩), .pointer (some ⟨new s.S, 0, none⟩), .int .i64 s.boot, v6, s.vb, s.vg, .map (some (new s.X))] 79 1) H6) (by omega) (fun i hi _ hN => by rw [hset_ne hN, hfr6 i hi]) (hset_same _ _ _) (fun i hi => .inr (hE6 i hi)) (z5.frame (Nat.le_refl _) (fun i hi => hset_ne (by have := hE6 i hi; omega) _ _))
        have ha7 : hset N (.cells [.pointer (some ⟨new s.C, 0, none⟩), .pointer (some ⟨new s.S, 0, none⟩), .int .i64 s.boot, v6, s.vb, s.vg, .map (some (new s.X))] 79 1) H6 n = .cells [.int .i64 a.boot, .int .i64 a.inv, .string a.data] 35 1 := by rw [hset_ne (by omega), hfr6 n (by omega)]; exact ha1
        have f7 : ∀ i, i < n0 → hset N (.cells [.pointer (some ⟨new s.C, 0, none⟩), .pointer (some ⟨new s.S, 0, none⟩), .int .i64 s.boot, v6, s.vb, s.vg, .map (some (new s.X))] 79 1) H6 i = H i := fun i hi => by
          have := g1.lo i hi
          rw [hset_ne (by rintro rfl; omega), hfr6 i (by omega), f1 i hi]
        generalize hH7 : hset N _ H6 = H7 at *
        clear hH7
        simp (disch := omega) [-hset_if, -Bool.decide_and, hset_ne, ha7]
        refine serve_ok (a := a) ⟨_, _, g7, rfl⟩ (by dsimp only [NS.p]; omega) (by have := hmem 1; dsimp only [NS.p]; omega) hat (by dsimp only [NS.p]; omega) ?_
        intro n2 H2 e1 e2 e3
        simp (disch := omega) [-hset_if, -Bool.decide_and, hset_ne]
        refine Fin_id ?_
        exact hk _ _ (by omega) (fun i hi => by rw [e2 i hi, f7 i hi]) e3
      · rw [if_neg b3] at hk
        simp (disch := omega) [-hset_if, -Bool.decide_and, hset_ne, ha1]
        refine serve_ok (a := a) ⟨_, _, g1, rfl⟩ (by dsimp only [NS.p]; omega) (by have := hmem 1; dsimp only [NS.p]; omega) hat (by dsimp only [NS.p]; omega) ?_
        intro n2 H2 e1 e2 e3
        simp (disch := omega) [-hset_if, -Bool.decide_and, hset_ne]
        refine Fin_id ?_
        exact hk _ _ (by omega) (fun i hi => by rw [e2 i hi, f1 i hi]) e3
    have hb2 : (kind == 2) = false := by simpa using k2
    simp (disch := omega) [-hset_if, -Bool.decide_and, hset_ne, hb2]
    refine cif_beq (fun k4 => ?_) (fun k4 => ?_)
    · rw [if_pos (.inr k4)] at hk
      subst k4
      unfold askN at hk

      simp (disch := omega) [-hset_if, -Bool.decide_and, hset_ne, hself, g.ak.sl.lenK]
      refine cif_beq (fun b1 => ?_) (fun b1 => ?_)
      · have he : s.asks = [] := List.eq_nil_of_length_eq_zero (by omega)
        rw [if_pos (show s.p.asks = [] from he)] at hk
        simp (disch := omega) [-hset_if, -Bool.decide_and, hset_ne]
        refine Fin_id ?_
        exact hk _ _ (Nat.le_refl _) (fun _ _ => rfl) ⟨_, _, g, rfl⟩
      rw [if_neg (show ¬ s.p.asks = [] from fun e => b1 (by have e : s.asks = [] := e; rw [e]; rfl))] at hk
      simp (disch := omega) [-hset_if, -Bool.decide_and, hset_ne, hself, g.ak.sl.lenK]
      obtain ⟨w1, w2, w3⟩ := ix_eq (which := which) (len := s.asks.length) (by omega) (by omega) hw
      rw [w2]
      refine ⟨w1, ?_⟩
      have hi : (ixW which s.p.asks.length : Int) = ixW which s.asks.length := rfl
      rw [hi] at hk
      have hi2 : ixW which s.p.asks.length = ixW which s.asks.length := rfl
      rw [hi2] at hk
      have hal : at_ s.p.asks (ixW which s.asks.length : Int) = at_ s.asks (ixW which s.asks.length : Int) := rfl
      rw [hal] at hk
      generalize hjj : ixW which s.asks.length = j at *
      have hat := hsmall _ (at_mem w3)
      simp (disch := omega) [-hset_if, -Bool.decide_and, hset_ne, g.ak.sl.ix elemS60, hself, g.ak.sl.load0 shp35]
      generalize hae : at_ s.asks (j : Int) = a at *
      have g1 := g.al (n' := n + 1) (H' := hset n (.cells [.int .i64 a.boot, .int .i64 a.inv, .string a.data] 35 1) H) (by omega) (fun i hi _ => hset_ne (by omega) _ _)
      generalize hH1 : hset n _ H = H1 at *
      have ha1 : H1 n = .cells [.int .i64 a.boot, .int .i64 a.inv, .string a.data] 35 1 := by rw [← hH1, hset_same]
      have f1 : ∀ i, i < n0 → H1 i = H i := fun i hi => by rw [← hH1, hset_ne (by omega)]
      clear hH1
      have hk1 : ext n 7 col n = 7 := by unfold ext; rw [if_neg (by omega)]
      generalize ext n 7 col = col1 at *
      have hself1 := g1.self
      have hN1 := g1.N0
      refine cif_beq (fun b3 => ?_) (fun b3 => ?_)
      · rw [if_pos b3] at hk
        simp (disch := omega) [-hset_if, -Bool.decide_and, hset_ne]
        refine AW.draw (X := ⟨_, 210, _, _⟩) (id := 16) mixed (.take 0 <| .take 2 <| .take 3 <| .take 4 <| .take 5 <| .take 6 <| .take 7 <| .take 9 <| .take 10 <| .take 11 <| .take 12 <| .take 13 <| .take 14 <| .take 15 <| .each 1 [0, 2, 3, 4, 5, 6, 7, 9, 10, 11, 12, 13, 14, 15] (.each 8 [0, 9, 10, 11, 12, 13, 14, 15] (.each 16 [0] (.take 17 <| .take 18 <| .each 19 [] (.done) <| .stop) <| .stop) <| .stop) <| .stop) (by kernel_rfl) ?_
        simp (disch := omega) [-hset_if, -Bool.decide_and, hset_ne, hself1]
        refine g1.ak.sl.head tk60 elemS60 (j := j) (by omega) ?_
        intro y1 hy1
        simp (disch := omega) [-hset_if, -Bool.decide_and, hset_ne, hself1]
        have cast1 : ((j : Int) + 1) = ((j + 1 : Nat) : Int) := by omega
        rw [cast1]
        refine g1.ak.sl.tail tk60 elemS60 (j := j + 1) (by omega) ?_
        intro y2 hy2
        simp (disch := omega) [-hset_if, -Bool.decide_and, hset_ne, hself1]
        have hE0 : ∀ i, s.A i → i < n + 1 := fun i hi => (g1.colA hi).2
        have hy1' : SlR ⟨Try.prog, w0⟩ (hset (n + 1) (.cells [] 35 3) H1) s.A 3 Ask.cells y1 (s.asks.take j) := hy1.frame (fun i hi => hset_ne (by have := hE0 i hi; omega) _ _)
        refine (OwR.empty (C := ⟨Try.prog, w0⟩) (f := Ask.cells) (T := 35) (sz := 3) (n := n + 1 + 1) (j := n + 1) (H := hset (n + 1) (.cells [] 35 3) H1) (by omega) (by omega) (hset_same _ _ _)).appendS elemS60 zero35 rfl hy1' (fun _ _ => rfl) (by simp; omega) (by simp; omega) ?_
        intro v5 n5 H5 E5 q1 q2 q3 q4 q5
        have hfr5 : ∀ i, i < n + 1 → H5 i = H1 i := fun i hi => by rw [q3 i (by omega) (by omega), hset_ne (by omega)]
        have hT5 := hfr5 N (by omega)
        rw [hself1] at hT5
        have hy2' : SlR ⟨Try.prog, w0⟩ H5 s.A 3 Ask.cells y2 (s.asks.drop (j + 1)) := hy2.frame (fun i hi => hfr5 i (hE0 i hi))
        simp (disch := omega) [-hset_if, -Bool.decide_and, hset_ne, hT5]
        refine q5.appendS elemS60 zero35 rfl hy2' (fun _ _ => rfl) (by simp; omega) (by simp; omega) ?_
        intro v6 n6 H6 E6 z1 z2 z3 z4 z5
        have hE5 : ∀ i, E5 i → n + 1 ≤ i := fun i hi => by rcases q4 i hi with v | v <;> omega
        have hE6 : ∀ i, E6 i → n + 1 ≤ i := fun i hi => by rcases z4 i hi with v | v; exact hE5 i v; omega
        have hfr6 : ∀ i, i < n + 1 → H6 i = H1 i := fun i hi => by rw [z3 i (by omega) (fun y => by have := hE5 i y; omega)]; exact hfr5 i hi
        have e6 := hfr6 N (by omega)
        rw [hself1] at e6
        have hcut : s.asks.take j ++ s.asks.drop (j + 1) = cut s.asks j := rfl
        rw [List.nil_append, hcut] at z5
        have ha6 : H6 n = .cells [.int .i64 a.boot, .int .i64 a.inv, .string a.data] 35 1 := by rw [hfr6 n (by omega)]; exact ha1
        simp (disch := omega) [-hset_if, -Bool.decide_and, hset_ne, e6, z5.sl.cells, z5.sl.one, ha6]
        have g7 := g1.asS (n' := n6) (H' := hset N (.cells [.pointer (some ⟨new s.C, 0, none⟩), .pointer (some ⟨new s.S, 0, none⟩), .int .i64 s.boot, v6, s.vb, s.vg, .map (some (new s.X))] 79 1) H6) (by omega) (fun i hi _ hN => by rw [hset_ne hN, hfr6 i hi]) (hset_same _ _ _) (fun i hi => .inr (hE6 i hi)) (z5.frame (Nat.le_refl _) (fun i hi => hset_ne (by have := hE6 i hi; omega) _ _))
        have ha7 : hset N (.cells [.pointer (some ⟨new s.C, 0, none⟩), .pointer (some ⟨new s.S, 0, none⟩), .int .i64 s.boot, v6, s.vb, s.vg, .map (some (new s.X))] 79 1) H6 n = .cells [.int .i64 a.boot, .int .i64 a.inv, .string a.data] 35 1 := by rw [hset_ne (by omega), hfr6 n (by omega)]; exact ha1
        have f7 : ∀ i, i < n0 → hset N (.cells [.pointer (some ⟨new s.C, 0, none⟩), .pointer (some ⟨new s.S, 0, none⟩), .int .i64 s.boot, v6, s.vb, s.vg, .map (some (new s.X))] 79 1) H6 i = H i := fun i hi => by
          have := g1.lo i hi
          rw [hset_ne (by rintro rfl; omega), hfr6 i (by omega), f1 i hi]
        generalize hH7 : hset N _ H6 = H7 at *
        clear hH7
        simp (disch := omega) [-hset_if, -Bool.decide_and, hset_ne]
        refine Fin_id ?_
        exact hk _ _ (by omega) f7 ⟨_, _, g7, rfl⟩
      · rw [if_neg b3] at hk
        simp (disch := omega) [-hset_if, -Bool.decide_and, hset_ne]
        refine Fin_id ?_
        exact hk _ _ (by omega) f1 ⟨_, _, g1, rfl⟩
    have hb4 : (kind == 4) = false := by simpa using k4
    rw [if_neg (by omega)] at hk
    simp (disch := omega) [-hset_if, -Bool.decide_and, hset_ne, hb4]
    refine cif_beq (fun k3 => ?_) (fun k3 => ?_)
    · rw [if_pos (.inl k3)] at hk
      subst k3
      unfold ansN at hk
      simp (disch := omega) [-hset_if, -Bool.decide_and, hset_ne, hself, g.an.sl.lenK]
      refine cif_beq (fun b1 => ?_) (fun b1 => ?_)
      · have he : s.answers = [] := List.eq_nil_of_length_eq_zero (by omega)
        rw [if_pos (show s.p.answers = [] from he)] at hk
        simp (disch := omega) [-hset_if, -Bool.decide_and, hset_ne]
        refine Fin_id ?_
        exact hk _ _ (Nat.le_refl _) (fun _ _ => rfl) ⟨_, _, g, rfl⟩
      rw [if_neg (show ¬ s.p.answers = [] from fun e => b1 (by have e : s.answers = [] := e; rw [e]; rfl))] at hk
      simp (disch := omega) [-hset_if, -Bool.decide_and, hset_ne, hself, g.an.sl.lenK]
      obtain ⟨w1, w2, w3⟩ := ix_eq (which := which) (len := s.answers.length) (by omega) (by omega) hw
      rw [w2]
      refine ⟨w1, ?_⟩
      have hi : (ixW which s.p.answers.length : Int) = ixW which s.answers.length := rfl
      rw [hi] at hk
      have hi2 : ixW which s.p.answers.length = ixW which s.answers.length := rfl
      rw [hi2] at hk
      have hal : at_ s.p.answers (ixW which s.answers.length : Int) = at_ s.answers (ixW which s.answers.length : Int) := rfl
      rw [hal] at hk
      generalize hjj : ixW which s.answers.length = j at *
      simp (disch := omega) [-hset_if, -Bool.decide_and, hset_ne, g.an.sl.ix elemS67, hself, g.an.sl.load0 shp33]
      generalize hae : at_ s.answers (j : Int) = a at *
      have g1 := g.al (n' := n + 1) (H' := hset n (.cells [.int .i64 a.boot, .int .i64 a.inv, .int .i64 a.code, .string a.data] 33 1) H) (by omega) (fun i hi _ => hset_ne (by omega) _ _)
      generalize hH1 : hset n _ H = H1 at *
      have ha1 : H1 n = .cells [.int .i64 a.boot, .int .i64 a.inv, .int .i64 a.code, .string a.data] 33 1 := by rw [← hH1, hset_same]
      have f1 : ∀ i, i < n0 → H1 i = H i := fun i hi => by rw [← hH1, hset_ne (by omega)]
      clear hH1
      have hk1 : ext n 7 col n = 7 := by unfold ext; rw [if_neg (by omega)]
      generalize ext n 7 col = col1 at *
      have hself1 := g1.self
      have hN1 := g1.N0
      refine cif_beq (fun b3 => ?_) (fun b3 => ?_)
      · rw [if_pos b3] at hk
        simp (disch := omega) [-hset_if, -Bool.decide_and, hset_ne]
        refine AW.draw (X := ⟨_, 210, _, _⟩) (id := 26) mixed (.take 0 <| .take 2 <| .take 3 <| .take 4 <| .take 5 <| .take 6 <| .take 7 <| .take 9 <| .take 10 <| .take 11 <| .take 12 <| .take 13 <| .take 14 <| .take 15 <| .each 1 [0, 2, 3, 4, 5, 6, 7, 9, 10, 11, 12, 13, 14, 15] (.each 8 [0, 9, 10, 11, 12, 13, 14, 15] (.each 16 [0] (.take 17 <| .take 18 <| .each 19 [] (.done) <| .stop) <| .stop) <| .stop) <| .stop) (by kernel_rfl) ?_
        simp (disch := omega) [-hset_if, -Bool.decide_and, hset_ne, hself1]
        refine g1.an.sl.head tk67 elemS67 (j := j) (by omega) ?_
        intro y1 hy1
        simp (disch := omega) [-hset_if, -Bool.decide_and, hset_ne, hself1]
        have cast1 : ((j : Int) + 1) = ((j + 1 : Nat) : Int) := by omega
        rw [cast1]
        refine g1.an.sl.tail tk67 elemS67 (j := j + 1) (by omega) ?_
        intro y2 hy2
        simp (disch := omega) [-hset_if, -Bool.decide_and, hset_ne, hself1]
        have hE0 : ∀ i, s.B i → i < n + 1 := fun i hi => (g1.colB hi).2
        have hy1' : SlR ⟨Try.prog, w0⟩ (hset (n + 1) (.cells [] 33 4) H1) s.B 4 Ans.cells y1 (s.answers.take j) := hy1.frame (fun i hi => hset_ne (by have := hE0 i hi; omega) _ _)
        refine (OwR.empty (C := ⟨Try.prog, w0⟩) (f := Ans.cells) (T := 33) (sz := 4) (n := n + 1 + 1) (j := n + 1) (H := hset (n + 1) (.cells [] 33 4) H1) (by omega) (by omega) (hset_same _ _ _)).appendS elemS67 zero33 rfl hy1' (fun _ _ => rfl) (by simp; omega) (by simp; omega) ?_
        intro v5 n5 H5 E5 q1 q2 q3 q4 q5
        have hfr5 : ∀ i, i < n + 1 → H5 i = H1 i := fun i hi => by rw [q3 i (by omega) (by omega), hset_ne (by omega)]
        have hT5 := hfr5 N (by omega)
        rw [hself1] at hT5
        have hy2' : SlR ⟨Try.prog, w0⟩ H5 s.B 4 Ans.cells y2 (s.answers.drop (j + 1)) := hy2.frame (fun i hi => hfr5 i (hE0 i hi))
        simp (disch := omega) [-hset_if, -Bool.decide_and, hset_ne, hT5]
        refine q5.appendS elemS67 zero33 rfl hy2' (fun _ _ => rfl) (by simp; omega) (by simp; omega) ?_
        intro v6 n6 H6 E6 z1 z2 z3 z4 z5
        have hE5 : ∀ i, E5 i → n + 1 ≤ i := fun i hi => by rcases q4 i hi with v | v <;> omega
        have hE6 : ∀ i, E6 i → n + 1 ≤ i := fun i hi => by rcases z4 i hi with v | v; exact hE5 i v; omega
        have hfr6 : ∀ i, i < n + 1 → H6 i = H1 i := fun i hi => by rw [z3 i (by omega) (fun y => by have := hE5 i y; omega)]; exact hfr5 i hi
        have e6 := hfr6 N (by omega)
        rw [hself1] at e6
        have hcut : s.answers.take j ++ s.answers.drop (j + 1) = cut s.answers j := rfl
        rw [List.nil_append, hcut] at z5
        have ha6 : H6 n = .cells [.int .i64 a.boot, .int .i64 a.inv, .int .i64 a.code, .string a.data] 33 1 := by rw [hfr6 n (by omega)]; exact ha1
        simp (disch := omega) [-hset_if, -Bool.decide_and, hset_ne, e6, z5.sl.cells, z5.sl.one, ha6]
        have g7 := g1.anS (n' := n6) (H' := hset N (.cells [.pointer (some ⟨new s.C, 0, none⟩), .pointer (some ⟨new s.S, 0, none⟩), .int .i64 s.boot, s.va, v6, s.vg, .map (some (new s.X))] 79 1) H6) (by omega) (fun i hi _ hN => by rw [hset_ne hN, hfr6 i hi]) (hset_same _ _ _) (fun i hi => .inr (hE6 i hi)) (z5.frame (Nat.le_refl _) (fun i hi => hset_ne (by have := hE6 i hi; omega) _ _))
        have ha7 : hset N (.cells [.pointer (some ⟨new s.C, 0, none⟩), .pointer (some ⟨new s.S, 0, none⟩), .int .i64 s.boot, s.va, v6, s.vg, .map (some (new s.X))] 79 1) H6 n = .cells [.int .i64 a.boot, .int .i64 a.inv, .int .i64 a.code, .string a.data] 33 1 := by rw [hset_ne (by omega), hfr6 n (by omega)]; exact ha1
        have f7 : ∀ i, i < n0 → hset N (.cells [.pointer (some ⟨new s.C, 0, none⟩), .pointer (some ⟨new s.S, 0, none⟩), .int .i64 s.boot, s.va, v6, s.vg, .map (some (new s.X))] 79 1) H6 i = H i := fun i hi => by
          have := g1.lo i hi
          rw [hset_ne (by rintro rfl; omega), hfr6 i (by omega), f1 i hi]
        generalize hH7 : hset N _ H6 = H7 at *
        clear hH7
        have hselfB := g7.self
        have hlb := g7.le
        simp (disch := omega) [-hset_if, -Bool.decide_and, hset_ne]
        refine AW.draw (X := ⟨_, 210, _, _⟩) (id := 28) mixed (.take 0 <| .take 1 <| .take 2 <| .take 3 <| .take 4 <| .take 5 <| .take 6 <| .take 7 <| .take 8 <| .take 9 <| .each 10 [0, 1, 2, 3, 4] (.each 11 [0] (.take 12 <| .take 13 <| .each 14 [] (.done) <| .stop) <| .stop) <| .stop) (by kernel_rfl) ?_
        simp (disch := omega) [-hset_if, -Bool.decide_and, hset_ne, hselfB, ha7]
        refine CHandle_ok (a := a) g7.cli (by first | omega | (dsimp only; omega)) (by first | omega | (dsimp only; omega)) ?_
        intro n2 H2 D2 P2 v2 u2 E2 F2 x2 G2 d1 d2 d3 d4 d5 d6
        have g8 := g7.clS d1 d2 d3 d4
        have f8 : ∀ i, i < n0 → H2 i = H i := fun i hi => by rw [d2 i (by omega) (fun y => by have := (g7.colD y).1; have := g7.lo i hi; omega), f7 i hi]
        have hx : handC s.p.c a = handC s.c a := rfl
        have hxl : (handC s.c a).1.length ≤ 1 := by unfold handC; dsimp only; split; simp; split; split <;> simp; split; simp; split <;> simp
        unfold handN at hk
        dsimp only at hk
        rw [hx] at hk
        generalize handC s.c a = x at *
        have hselfC := g8.self
        have hNC := g8.N0
        simp (disch := omega) [-hset_if, -Bool.decide_and, hset_ne, hselfC]
        refine g8.ak.appendS elemS60 zero35 rfl d5.sl (fun _ _ => rfl) (by first | omega | (dsimp only; omega)) (by first | omega | (dsimp only; omega)) ?_
        intro va3 n3 H3 A3 p1 p2 p3 p4 p5
        have e3 : H3 N = H2 N := p3 N (by omega) (fun y => by have := (g8.colA y).1; omega)
        rw [hselfC] at e3
        simp (disch := omega) [-hset_if, -Bool.decide_and, hset_ne, e3, p5.sl.cells, p5.sl.one]
        refine Fin_id ?_
        have g4 := g8.asS (n' := n3) (H' := hset N (.cells [.pointer (some ⟨new s.C, 0, none⟩), .pointer (some ⟨new s.S, 0, none⟩), .int .i64 s.boot, va3, v6, s.vg, .map (some (new s.X))] 79 1) H3) (by omega) (fun i hi hG hN => by rw [hset_ne hN, p3 i (by omega) hG]) (hset_same _ _ _) (fun i hi => by rcases p4 i hi with z | z; exact .inl z; exact .inr (by omega)) (p5.frame (Nat.le_refl _) (fun i hi => hset_ne (by rintro rfl; rcases p4 _ hi with z | z; have := (g8.colA z).1; omega; omega) _ _))
        refine hk _ _ (by omega) (fun i hi => ?_) ⟨_, _, g4, rfl⟩
        have := g8.lo i hi
        rw [hset_ne (by rintro rfl; omega), p3 i (by omega) (fun y => by have := (g8.colA y).1; omega), f8 i hi]
      · rw [if_neg b3] at hk
        have hselfB := g1.self
        have hlb := g1.le
        simp (disch := omega) [-hset_if, -Bool.decide_and, hset_ne]
        refine AW.draw (X := ⟨_, 210, _, _⟩) (id := 28) mixed (.take 0 <| .take 1 <| .take 2 <| .take 3 <| .take 4 <| .take 5 <| .take 6 <| .take 7 <| .take 8 <| .take 9 <| .each 10 [0, 1, 2, 3, 4] (.each 11 [0] (.take 12 <| .take 13 <| .each 14 [] (.done) <| .stop) <| .stop) <| .stop) (by kernel_rfl) ?_
        simp (disch := omega) [-hset_if, -Bool.decide_and, hset_ne, hselfB, ha1]
        refine CHandle_ok (a := a) g1.cli (by first | omega | (dsimp only; omega)) (by first | omega | (dsimp only; omega)) ?_
        intro n2 H2 D2 P2 v2 u2 E2 F2 x2 G2 d1 d2 d3 d4 d5 d6
        have g8 := g1.clS d1 d2 d3 d4
        have f8 : ∀ i, i < n0 → H2 i = H i := fun i hi => by rw [d2 i (by omega) (fun y => by have := (g1.colD y).1; have := g1.lo i hi; omega), f1 i hi]
        have hx : handC s.p.c a = handC s.c a := rfl
        have hxl : (handC s.c a).1.length ≤ 1 := by unfold handC; dsimp only; split; simp; split; split <;> simp; split; simp; split <;> simp
        unfold handN at hk
        dsimp only at hk
        rw [hx] at hk
        generalize handC s.c a = x at *
        have hselfC := g8.self
        have hNC := g8.N0
        simp (disch := omega) [-hset_if, -Bool.decide_and, hset_ne, hselfC]
        refine g8.ak.appendS elemS60 zero35 rfl d5.sl (fun _ _ => rfl) (by first | omega | (dsimp only; omega)) (by first | omega | (dsimp only; omega)) ?_
        intro va3 n3 H3 A3 p1 p2 p3 p4 p5
        have e3 : H3 N = H2 N := p3 N (by omega) (fun y => by have := (g8.colA y).1; omega)
        rw [hselfC] at e3
        simp (disch := omega) [-hset_if, -Bool.decide_and, hset_ne, e3, p5.sl.cells, p5.sl.one]
        refine Fin_id ?_
        have g4 := g8.asS (n' := n3) (H' := hset N (.cells [.pointer (some ⟨new s.C, 0, none⟩), .pointer (some ⟨new s.S, 0, none⟩), .int .i64 s.boot, va3, s.vb, s.vg, .map (some (new s.X))] 79 1) H3) (by omega) (fun i hi hG hN => by rw [hset_ne hN, p3 i (by omega) hG]) (hset_same _ _ _) (fun i hi => by rcases p4 i hi with z | z; exact .inl z; exact .inr (by omega)) (p5.frame (Nat.le_refl _) (fun i hi => hset_ne (by rintro rfl; rcases p4 _ hi with z | z; have := (g8.colA z).1; omega; omega) _ _))
        refine hk _ _ (by omega) (fun i hi => ?_) ⟨_, _, g4, rfl⟩
        have := g8.lo i hi
        rw [hset_ne (by rintro rfl; omega), p3 i (by omega) (fun y => by have := (g8.colA y).1; omega), f8 i hi]
    have hb3 : (kind == 3) = false := by simpa using k3
    simp (disch := omega) [-hset_if, -Bool.decide_and, hset_ne, hb3]
    refine cif_beq (fun k5 => ?_) (fun k5 => ?_)
    · rw [if_pos (.inr k5)] at hk
      subst k5
      unfold ansN at hk
      simp (disch := omega) [-hset_if, -Bool.decide_and, hset_ne, hself, g.an.sl.lenK]
      refine cif_beq (fun b1 => ?_) (fun b1 => ?_)
      · have he : s.answers = [] := List.eq_nil_of_length_eq_zero (by omega)
        rw [if_pos (show s.p.answers = [] from he)] at hk
        simp (disch := omega) [-hset_if, -Bool.decide_and, hset_ne]
        refine Fin_id ?_
        exact hk _ _ (Nat.le_refl _) (fun _ _ => rfl) ⟨_, _, g, rfl⟩
      rw [if_neg (show ¬ s.p.answers = [] from fun e => b1 (by have e : s.answers = [] := e; rw [e]; rfl))] at hk
      simp (disch := omega) [-hset_if, -Bool.decide_and, hset_ne, hself, g.an.sl.lenK]
      obtain ⟨w1, w2, w3⟩ := ix_eq (which := which) (len := s.answers.length) (by omega) (by omega) hw
      rw [w2]
      refine ⟨w1, ?_⟩
      have hi : (ixW which s.p.answers.length : Int) = ixW which s.answers.length := rfl
      rw [hi] at hk
      have hi2 : ixW which s.p.answers.length = ixW which s.answers.length := rfl
      rw [hi2] at hk
      have hal : at_ s.p.answers (ixW which s.answers.length : Int) = at_ s.answers (ixW which s.answers.length : Int) := rfl
      rw [hal] at hk
      generalize hjj : ixW which s.answers.length = j at *
      simp (disch := omega) [-hset_if, -Bool.decide_and, hset_ne, g.an.sl.ix elemS67, hself, g.an.sl.load0 shp33]
      generalize hae : at_ s.answers (j : Int) = a at *
      have g1 := g.al (n' := n + 1) (H' := hset n (.cells [.int .i64 a.boot, .int .i64 a.inv, .int .i64 a.code, .string a.data] 33 1) H) (by omega) (fun i hi _ => hset_ne (by omega) _ _)
      generalize hH1 : hset n _ H = H1 at *
      have ha1 : H1 n = .cells [.int .i64 a.boot, .int .i64 a.inv, .int .i64 a.code, .string a.data] 33 1 := by rw [← hH1, hset_same]
      have f1 : ∀ i, i < n0 → H1 i = H i := fun i hi => by rw [← hH1, hset_ne (by omega)]
      clear hH1
      have hk1 : ext n 7 col n = 7 := by unfold ext; rw [if_neg (by omega)]
      generalize ext n 7 col = col1 at *
      have hself1 := g1.self
      have hN1 := g1.N0
      refine cif_beq (fun b3 => ?_) (fun b3 => ?_)
      · rw [if_pos b3] at hk
        simp (disch := omega) [-hset_if, -Bool.decide_and, hset_ne]
        refine AW.draw (X := ⟨_, 210, _, _⟩) (id := 26) mixed (.take 0 <| .take 2 <| .take 3 <| .take 4 <| .take 5 <| .take 6 <| .take 7 <| .take 9 <| .take 10 <| .take 11 <| .take 12 <| .take 13 <| .take 14 <| .take 15 <| .each 1 [0, 2, 3, 4, 5, 6, 7, 9, 10, 11, 12, 13, 14, 15] (.each 8 [0, 9, 10, 11, 12, 13, 14, 15] (.each 16 [0] (.take 17 <| .take 18 <| .each 19 [] (.done) <| .stop) <| .stop) <| .stop) <| .stop) (by kernel_rfl) ?_
        simp (disch := omega) [-hset_if, -Bool.decide_and, hset_ne, hself1]
        refine g1.an.sl.head tk67 elemS67 (j := j) (by omega) ?_
        intro y1 hy1
        simp (disch := omega) [-hset_if, -Bool.decide_and, hset_ne, hself1]
        have cast1 : ((j : Int) + 1) = ((j + 1 : Nat) : Int) := by omega
        rw [cast1]
        refine g1.an.sl.tail tk67 elemS67 (j := j + 1) (by omega) ?_
        intro y2 hy2
        simp (disch := omega) [-hset_if, -Bool.decide_and, hset_ne, hself1]
        have hE0 : ∀ i, s.B i → i < n + 1 := fun i hi => (g1.colB hi).2
        have hy1' : SlR ⟨Try.prog, w0⟩ (hset (n + 1) (.cells [] 33 4) H1) s.B 4 Ans.cells y1 (s.answers.take j) := hy1.frame (fun i hi => hset_ne (by have := hE0 i hi; omega) _ _)
        refine (OwR.empty (C := ⟨Try.prog, w0⟩) (f := Ans.cells) (T := 33) (sz := 4) (n := n + 1 + 1) (j := n + 1) (H := hset (n + 1) (.cells [] 33 4) H1) (by omega) (by omega) (hset_same _ _ _)).appendS elemS67 zero33 rfl hy1' (fun _ _ => rfl) (by simp; omega) (by simp; omega) ?_
        intro v5 n5 H5 E5 q1 q2 q3 q4 q5
        have hfr5 : ∀ i, i < n + 1 → H5 i = H1 i := fun i hi => by rw [q3 i (by omega) (by omega), hset_ne (by omega)]
        have hT5 := hfr5 N (by omega)
        rw [hself1] at hT5
        have hy2' : SlR ⟨Try.prog, w0⟩ H5 s.B 4 Ans.cells y2 (s.answers.drop (j + 1)) := hy2.frame (fun i hi => hfr5 i (hE0 i hi))
        simp (disch := omega) [-hset_if, -Bool.decide_and, hset_ne, hT5]
        refine q5.appendS elemS67 zero33 rfl hy2' (fun _ _ => rfl) (by simp; omega) (by simp; omega) ?_
        intro v6 n6 H6 E6 z1 z2 z3 z4 z5
        have hE5 : ∀ i, E5 i → n + 1 ≤ i := fun i hi => by rcases q4 i hi with v | v <;> omega
        have hE6 : ∀ i, E6 i → n + 1 ≤ i := fun i hi => by rcases z4 i hi with v | v; exact hE5 i v; omega
        have hfr6 : ∀ i, i < n + 1 → H6 i = H1 i := fun i hi => by rw [z3 i (by omega) (fun y => by have := hE5 i y; omega)]; exact hfr5 i hi
        have e6 := hfr6 N (by omega)
        rw [hself1] at e6
        have hcut : s.answers.take j ++ s.answers.drop (j + 1) = cut s.answers j := rfl
        rw [List.nil_append, hcut] at z5
        have ha6 : H6 n = .cells [.int .i64 a.boot, .int .i64 a.inv, .int .i64 a.code, .string a.data] 33 1 := by rw [hfr6 n (by omega)]; exact ha1
        simp (disch := omega) [-hset_if, -Bool.decide_and, hset_ne, e6, z5.sl.cells, z5.sl.one, ha6]
        have g7 := g1.anS (n' := n6) (H' := hset N (.cells [.pointer (some ⟨new s.C, 0, none⟩), .pointer (some ⟨new s.S, 0, none⟩), .int .i64 s.boot, s.va, v6, s.vg, .map (some (new s.X))] 79 1) H6) (by omega) (fun i hi _ hN => by rw [hset_ne hN, hfr6 i hi]) (hset_same _ _ _) (fun i hi => .inr (hE6 i hi)) (z5.frame (Nat.le_refl _) (fun i hi => hset_ne (by have := hE6 i hi; omega) _ _))
        have ha7 : hset N (.cells [.pointer (some ⟨new s.C, 0, none⟩), .pointer (some ⟨new s.S, 0, none⟩), .int .i64 s.boot, s.va, v6, s.vg, .map (some (new s.X))] 79 1) H6 n = .cells [.int .i64 a.boot, .int .i64 a.inv, .int .i64 a.code, .string a.data] 33 1 := by rw [hset_ne (by omega), hfr6 n (by omega)]; exact ha1
        have f7 : ∀ i, i < n0 → hset N (.cells [.pointer (some ⟨new s.C, 0, none⟩), .pointer (some ⟨new s.S, 0, none⟩), .int .i64 s.boot, s.va, v6, s.vg, .map (some (new s.X))] 79 1) H6 i = H i := fun i hi => by
          have := g1.lo i hi
          rw [hset_ne (by rintro rfl; omega), hfr6 i (by omega), f1 i hi]
        generalize hH7 : hset N _ H6 = H7 at *
        clear hH7
        simp (disch := omega) [-hset_if, -Bool.decide_and, hset_ne]
        refine Fin_id ?_
        exact hk _ _ (by omega) f7 ⟨_, _, g7, rfl⟩
      · rw [if_neg b3] at hk
        simp (disch := omega) [-hset_if, -Bool.decide_and, hset_ne]
        refine Fin_id ?_
        exact hk _ _ (by omega) f1 ⟨_, _, g1, rfl⟩
    have hb5 : (kind == 5) = false := by simpa using k5
    rw [if_neg (by omega)] at hk
    simp (disch := omega) [-hset_if, -Bool.decide_and, hset_ne, hb5]
    refine cif_beq (fun k6 => ?_) (fun k6 => ?_)
    · rw [if_pos k6] at hk
      subst k6
      simp (disch := omega) [-hset_if, -Bool.decide_and, hset_ne, hself]
      refine NewServer_ok (fun h => absurd (show nsOk (s.boot + 1) 2 by unfold nsOk; omega) h) (fun _ n1 H1 S' M' a1 a2 a3 a4 hS => ?_)
      have e1 : H1 N = H N := a2 N hN.2
      rw [hself] at e1
      have e2 : hset N (.cells [.pointer (some ⟨new s.C, 0, none⟩), .pointer (some ⟨new S', 0, none⟩), .int .i64 s.boot, s.va, s.vb, s.vg, .map (some (new s.X))] 79 1) H1 N = .cells [.pointer (some ⟨new s.C, 0, none⟩), .pointer (some ⟨new S', 0, none⟩), .int .i64 s.boot, s.va, s.vb, s.vg, .map (some (new s.X))] 79 1 := hset_same _ _ _
      simp (disch := omega) [-hset_if, -Bool.decide_and, hset_ne, e1, e2]
      refine Fin_id ?_
      have hSn := fun i hi => hS.lt' (i := i) hi
      have g1 := g.rb (n' := n1) (H' := hset N (.cells [.pointer (some ⟨new s.C, 0, none⟩), .pointer (some ⟨new S', 0, none⟩), .int .i64 (s.boot + 1), s.va, s.vb, s.vg, .map (some (new s.X))] 79 1) H1) a1 (fun i hi hN => by rw [hset_ne hN, a2 i hi]) a3 a4 (b := s.boot + 1)
        (hS.frameD (Nat.le_refl _) (fun i hi => hset_ne (by rintro rfl; rcases hi with h | h | ⟨e, he, _⟩; omega; omega; simp at he) _ _)) (hset_same _ _ _)
      refine hk _ _ (by omega) (fun i hi => ?_) ⟨_, _, g1, ?_⟩
      · have := g.lo i hi
        rw [hset_ne (by rintro rfl; omega), a2 i (by omega)]
      · unfold rebootN
        simp only [NS.p]
        congr 1
    rw [if_neg k6] at hk
    simp (disch := omega) [-hset_if, -Bool.decide_and, hset_ne]
    refine Fin_id ?_
    exact hk _ _ (Nat.le_refl _) (fun _ _ => rfl) ⟨_, _, g, rfl⟩
end Go.Aw.S50
