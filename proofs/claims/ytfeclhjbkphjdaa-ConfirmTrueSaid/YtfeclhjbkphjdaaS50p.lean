/-
  Chapter 50: the reference's client handles; time passes.
-/
import Derived.Test.YtfeclhjbkphjdaaS50o
namespace Go.Aw.S50
open Go.RowKit Go.Proofs Go.Aw.Tab
set_option linter.unusedSimpArgs false
set_option linter.unusedVariables false
set_option maxRecDepth 10000
set_option maxHeartbeats 2000000
set_option pp.deepTerms false
set_option pp.deepTerms.threshold 4
set_option pp.maxSteps 1500
variable {w0 : World} {n : Nat} {H : Heap} {K : Value → Nat → Heap → Prop}
attribute [local simp] Ans.cells Ask.cells Opn.cells Wt.cells Qt.cells intC
def NotYet (c : Cl) (a : Ans) (j : Nat) : Prop := ∀ q : Nat, q < j → ((at_ c.opn (q : Int)).inv == a.inv) = false
theorem RclR.setC {T : Nat} {D E F : Nat → Prop} {c c' : Cl} {v u : Value} (h : RclR H w0 n T D c v u E F) (h1 : c'.opn = c.opn) (h2 : c'.done = c.done) {n' : Nat} {H' : Heap} (hn : n ≤ n') (h3 : H' T = .cells [.int .i64 c'.pat, .int .i64 c'.ret, .int .i64 c'.boot, .int .i64 (c'.sent + 1), v, u] 71 1) (h4 : ∀ i, D i → i ≠ T → H' i = H i) : RclR H' w0 n' T D c' v u E F := by
  obtain ⟨s1, s2, s3⟩ := h.s
  exact ⟨h3, by rw [h1]; exact h.op.frame hn (fun i hi => h4 i ((h.d i).2 (.inr (.inl hi))) (fun y => s1 (y ▸ hi))), by rw [h2]; exact h.dn.frame hn (fun i hi => h4 i ((h.d i).2 (.inr (.inr hi))) (fun y => s2 (y ▸ hi))), h.d, ⟨s1, s2, by omega⟩, h.ef⟩
/-- A pending request is written. -/
theorem RclR.setW {T : Nat} {D E F : Nat → Prop} {c : Cl} {v u : Value} (h : RclR H w0 n T D c v u E F) {l : List Wt} {n' : Nat} {H' : Heap} (hn : n ≤ n') (h3 : OwR ⟨Try.prog, w0⟩ H' n E 107 6 Wt.cells v l) (h4 : ∀ i, ¬ E i → H' i = H i) : RclR H' w0 n' T D { c with opn := l } v u E F := by
  obtain ⟨s1, s2, s3⟩ := h.s
  exact ⟨by rw [h4 T s1]; exact h.self, h3.frame hn (fun _ _ => rfl), h.dn.frame hn (fun i hi => h4 i (fun y => h.ef i y hi)), h.d, ⟨s1, s2, by omega⟩, h.ef⟩
theorem RCHandle_ok {T : Nat} {D E F : Nat → Prop} {c : Cl} {v u : Value} {a : Ans} (h : RclR H w0 n T D c v u E F) (hl : c.opn.length ≤ 1000) (hl2 : c.done.length < 1000)
    (hk : ∀ n' H' D' v' u' E' F' x G, n ≤ n' → (∀ i, i < n → ¬ D i → H' i = H i) → (∀ i, D' i → D i ∨ n ≤ i) → RclR H' w0 n' T D' (handC c a).2 v' u' E' F' → OwR ⟨Try.prog, w0⟩ H' n' G 35 3 Ask.cells x (handC c a).1 → (∀ i, G i → n ≤ i ∧ ¬ D' i) → K x n' H') :
    ACall ⟨Try.prog, w0⟩ 24 [.pointer (some ⟨new T, 0, none⟩), .agg a.cells.toArray] K n H := by
  have hself := h.self
  obtain ⟨s1, s2, s3⟩ := h.s
  have hEn := h.op.lt
  have hFn := h.dn.lt
  have hDS := (h.d T).2 (.inl rfl)
  unfold handC at hk
  dsimp only at hk
  refine ACall.run Try.func24 rfl Try.ntmps24 Try.results24 (by simp) fun J0 => ?_
  simp (disch := omega) [-hset_if, -Bool.decide_and, hset_ne]
  have h0 := h.frame (n' := n + 1) (H' := hset n (.cells [.int .i64 a.boot, .int .i64 a.inv, .int .i64 a.code, .string a.data] 33 1) H) (by omega) (fun i hi => hset_ne (by have := h.lt hi; omega) _ _)
  generalize hH0 : hset n _ H = H0 at *
  have hA0 : H0 n = .cells [.int .i64 a.boot, .int .i64 a.inv, .int .i64 a.code, .string a.data] 33 1 := by rw [← hH0, hset_same]
  have hfr0 : ∀ i, i < n → H0 i = H i := fun i hi => by rw [← hH0, hset_ne (by omega)]
  clear hH0
  refine AW.while (σ := Nat) (fun j => c.opn.length - j) (fun j => [(0, .pointer (some ⟨new T, 0, none⟩)), (3, .pointer (some ⟨new n, 0, none⟩)), (5, .int .i64 (j : Int))])
    (fun j n1 H1 => j ≤ c.opn.length ∧ n + 1 ≤ n1 ∧ (∀ i, i < n + 1 → H1 i = H0 i) ∧ NotYet c a j) 0 ?_ ?_ ?_
  · simp (disch := omega) [-hset_if, -Bool.decide_and, hset_ne]
  · exact ⟨by omega, Nat.le_refl _, fun _ _ => rfl, fun q hq => by omega⟩
  rintro j n1 H1 ⟨g1, g2, g3, g4⟩
  have g4' := g4
  unfold NotYet at g4
  have h1 := h0.frame g2 (fun i hi => g3 i (by have := h.lt hi; omega))
  have hT1 := h1.self
  have hA1 : H1 n = .cells [.int .i64 a.boot, .int .i64 a.inv, .int .i64 a.code, .string a.data] 33 1 := by rw [g3 n (by omega)]; exact hA0
  have hfr1 : ∀ i, i < n → H1 i = H i := fun i hi => by rw [g3 i (by omega), hfr0 i hi]
  simp (disch := omega) [-hset_if, -Bool.decide_and, hset_ne, hT1, h1.op.sl.lenK]
  refine cif_dec (fun b1 => ?_) (fun b1 => ?_)
  rotate_left
  · rw [fidx_none (fun q hq => g4 q (by omega)), if_pos (by omega)] at hk
    simp (disch := omega) [-hset_if, -Bool.decide_and, hset_ne]
    refine Fin_id ?_
    exact hk _ _ D v u E F _ (fun _ => False) (by omega) (fun i hi _ => hfr1 i hi) (fun i h => .inl h) h1 (OwR.nil (by omega)) (fun _ h => h.elim)
  simp (disch := omega) [-hset_if, -Bool.decide_and, hset_ne, hT1, h1.op.sl.ix elemS69, h1.op.sl.load0 shp107, hA1]
  refine cif_bne (fun b2 => ?_) (fun b2 => ?_)
  rotate_left
  · simp (disch := omega) [-hset_if, -Bool.decide_and, hset_ne]
    refine Next.mk (j + 1) (by first | omega | (dsimp only; omega)) (by simp (disch := omega) [-hset_if, -Bool.decide_and, hset_ne]) ⟨by omega, by omega, fun i hi => ?_, fun q hq => ?_⟩
    · rw [hset_ne (by omega)]; exact g3 i hi
    · by_cases e : q < j
      · exact g4 q e
      · obtain rfl : q = j := by omega
        simpa using b2
  have hfi : fidx (fun w : Wt => w.inv == a.inv) c.opn = (j : Int) := fidx_found (by omega) (by simpa using b2) g4
  rw [hfi, if_neg (by omega)] at hk
  have her : c.opn.eraseIdx (j : Int).toNat = c.opn.take j ++ c.opn.drop (j + 1) := by rw [Int.toNat_natCast, List.eraseIdx_eq_take_drop_succ]
  rw [her] at hk
  generalize hw : at_ c.opn (j : Int) = w at *
  have h2 := h1.frame (n' := n1 + 1) (H' := hset n1 (.cells [.int .i64 w.boot, .int .i64 w.inv, .string w.data, .bool w.known, .int .i64 w.rep, .int .i64 w.wait] 107 1) H1) (by omega) (fun i hi => hset_ne (by have := h1.lt hi; omega) _ _)
  generalize hH2 : hset n1 _ H1 = H2 at *
  have hW2 : H2 n1 = .cells [.int .i64 w.boot, .int .i64 w.inv, .string w.data, .bool w.known, .int .i64 w.rep, .int .i64 w.wait] 107 1 := by rw [← hH2, hset_same]
  have hfr2 : ∀ i, i < n1 → H2 i = H1 i := fun i hi => by rw [← hH2, hset_ne (by omega)]
  clear hH2
  have hA2 : H2 n = .cells [.int .i64 a.boot, .int .i64 a.inv, .int .i64 a.code, .string a.data] 33 1 := by rw [hfr2 n (by omega)]; exact hA1
  have hT2 := h2.self
  have hfrA : ∀ i, i < n → H2 i = H i := fun i hi => by rw [hfr2 i (by omega), hfr1 i hi]
  have g1' : j < c.opn.length := by omega
  simp (disch := omega) [-hset_if, -Bool.decide_and, hset_ne, hA2]
  refine cif_bne (fun c1 => ?_) (fun c1 => ?_)
  rotate_left
  · rw [if_pos c1] at hk
    simp (disch := omega) [-hset_if, -Bool.decide_and, hset_ne, hA2, hW2]
    refine cif_beq (fun c2 => ?_) (fun c2 => ?_)
    · rw [if_pos c2] at hk
      simp (disch := omega) [-hset_if, -Bool.decide_and, hset_ne, hA2]
      refine end_ok (j := j) (a := a) h2 (by omega) hl hl2 ?_
      intro n3 H3 D3 v3 u3 E3 F3 d1 d2 d3 d4
      simp (disch := omega) [-hset_if, -Bool.decide_and, hset_ne]
      refine Fin_id ?_
      exact hk _ _ D3 v3 u3 E3 F3 _ (fun _ => False) (by omega) (fun i hi hD => by rw [d2 i (by omega) hD, hfrA i hi]) (fun i hi => by rcases d3 i hi with z | z; exact .inl z; exact .inr (by omega)) d4 (OwR.nil (by omega)) (fun _ h => h.elim)
    · rw [if_neg c2] at hk
      simp (disch := omega) [-hset_if, -Bool.decide_and, hset_ne]
      refine Fin_id ?_
      exact hk _ _ D v u E F _ (fun _ => False) (by omega) (fun i hi _ => hfrA i hi) (fun i h => .inl h) h2 (OwR.nil (by omega)) (fun _ h => h.elim)
  rw [if_neg (by simp [c1])] at hk
  simp (disch := omega) [-hset_if, -Bool.decide_and, hset_ne, hA2, hW2]
  refine cif_dec (fun c2 => ?_) (fun c2 => ?_)
  · rw [if_pos c2] at hk
    simp (disch := omega) [-hset_if, -Bool.decide_and, hset_ne]
    refine Fin_id ?_
    exact hk _ _ D v u E F _ (fun _ => False) (by omega) (fun i hi _ => hfrA i hi) (fun i h => .inl h) h2 (OwR.nil (by omega)) (fun _ h => h.elim)
  rw [if_neg c2] at hk
  simp (disch := omega) [-hset_if, -Bool.decide_and, hset_ne]
  refine AW.draw (X := ⟨_, 80, _, _⟩) (id := 12) mixed (.take 0 <| .take 1 <| .take 2 <| .take 3 <| .take 4 <| .take 5 <| .take 6 <| .take 7 <| .take 8 <| .take 9 <| .each 10 [] (.done) <| .stop) (by kernel_rfl) ?_
  simp (disch := omega) [-hset_if, -Bool.decide_and, hset_ne, hA2, hT2, mx_eq, hW2]
  have h3 := h2.setC (c' := { c with boot := max c.boot a.boot }) rfl rfl (Nat.le_refl _) (H' := hset T (.cells [.int .i64 c.pat, .int .i64 c.ret, .int .i64 (max c.boot a.boot), .int .i64 (c.sent + 1), v, u] 71 1) H2) (hset_same _ _ _) (fun i _ hi => hset_ne hi _ _)
  generalize hH3 : hset T _ H2 = H3 at *
  have hfr3 : ∀ i, i ≠ T → H3 i = H2 i := fun i hi => by rw [← hH3, hset_ne hi]
  clear hH3
  have hA3 : H3 n = .cells [.int .i64 a.boot, .int .i64 a.inv, .int .i64 a.code, .string a.data] 33 1 := by rw [hfr3 n (by omega)]; exact hA2
  have hW3 : H3 n1 = .cells [.int .i64 w.boot, .int .i64 w.inv, .string w.data, .bool w.known, .int .i64 w.rep, .int .i64 w.wait] 107 1 := by rw [hfr3 n1 (by omega)]; exact hW2
  have hT3 := h3.self
  refine cif_var (fun c3 => ?_) (fun c3 => ?_)
  · rw [if_pos c3] at hk
    simp (disch := omega) [-hset_if, -Bool.decide_and, hset_ne, hA3]
    refine end_ok (j := j) (a := a) h3 (by exact g1') hl hl2 ?_
    intro n4 H4 D4 v4 u4 E4 F4 d1 d2 d3 d4
    simp (disch := omega) [-hset_if, -Bool.decide_and, hset_ne]
    refine Fin_id ?_
    exact hk _ _ D4 v4 u4 E4 F4 _ (fun _ => False) (by omega) (fun i hi hD => by rw [d2 i (by omega) hD, hfr3 i (fun y => hD (y ▸ hDS)), hfrA i hi]) (fun i hi => by rcases d3 i hi with z | z; exact .inl z; exact .inr (by omega)) d4 (OwR.nil (by omega)) (fun _ h => h.elim)
  rw [if_neg (by simp [c3])] at hk
  have ho3 : OwR ⟨Try.prog, w0⟩ H3 (n1 + 1) E 107 6 Wt.cells v c.opn := h3.op
  have hT3' : H3 T = .cells [.int .i64 c.pat, .int .i64 c.ret, .int .i64 (max c.boot a.boot), .int .i64 (c.sent + 1), v, u] 71 1 := hT3
  simp (disch := omega) [-hset_if, -Bool.decide_and, hset_ne, hA3, hW3]
  have h4 := h3.frame (Nat.le_refl _) (H' := hset n1 (.cells [.int .i64 a.boot, .int .i64 w.inv, .string w.data, .bool true, .int .i64 w.rep, .int .i64 0] 107 1) H3) (fun i hi => hset_ne (by have := h1.lt hi; omega) _ _)
  generalize hH4 : hset n1 _ H3 = H4 at *
  have hW4 : H4 n1 = .cells [.int .i64 a.boot, .int .i64 w.inv, .string w.data, .bool true, .int .i64 w.rep, .int .i64 0] 107 1 := by rw [← hH4, hset_same]
  have hfr4 : ∀ i, i ≠ n1 → H4 i = H3 i := fun i hi => by rw [← hH4, hset_ne hi]
  clear hH4
  have hT4 : H4 T = .cells [.int .i64 c.pat, .int .i64 c.ret, .int .i64 (max c.boot a.boot), .int .i64 (c.sent + 1), v, u] 71 1 := by rw [hfr4 T (by omega)]; exact hT3'
  have ho4 : OwR ⟨Try.prog, w0⟩ H4 (n1 + 1) E 107 6 Wt.cells v c.opn := h4.op
  refine AW.draw (X := ⟨_, 80, _, _⟩) (id := 19) mixed (.take 0 <| .take 1 <| .take 2 <| .take 3 <| .take 4 <| .take 5 <| .take 6 <| .each 7 [] (.done) <| .stop) (by kernel_rfl) ?_
  simp (disch := omega) [-hset_if, -Bool.decide_and, hset_ne, hT4, hW4, ho4.sl.ix elemS69]
  refine ho4.store0 shp107 (by omega) (by omega) { w with boot := a.boot, known := true, wait := 0 } rfl rfl rfl ?_
  intro H5 x1 x2
  have hE5 : ∀ i, E i → i < n := hEn
  have hW5 : H5 n1 = .cells [.int .i64 a.boot, .int .i64 w.inv, .string w.data, .bool true, .int .i64 w.rep, .int .i64 0] 107 1 := by rw [x1 n1 (fun y => by have := hEn n1 y; omega)]; exact hW4
  simp (disch := omega) [-hset_if, -Bool.decide_and, hset_ne, hW5]
  refine Fin_id ?_
  have h5 : RclR H5 w0 (n1 + 1) T D { c with boot := max c.boot a.boot, opn := c.opn.set (j : Int).toNat { w with boot := a.boot, known := true, wait := 0 } } v u E F := h4.setW (Nat.le_refl _) x2 x1
  refine hk _ _ D v u E F _ (· = n1 + 1) (by omega) (fun i hi hD => ?_) (fun i h => .inl h) (h5.frame (by omega) (fun i hi => hset_ne (by have := h.lt hi; omega) _ _)) (OwR.lit (by omega) (fun x hx => by simp at hx; subst hx; rfl) (by omega) (hset_same _ _ _) (by simp [Wt.ask]) (by simp)) (fun i hi => ⟨by omega, fun y => by have := h.lt y; omega⟩)
  have e2 : i ≠ T := fun y => hD (y ▸ hDS)
  rw [hset_ne (by omega), x1 i (fun y => hD ((h.d i).2 (.inr (.inl y)))), hfr4 i (by omega), hfr3 i e2, hfrA i hi]
structure RS where
  j : Nat
  A : List Wt
  x : Value
  G : Nat → Prop
  D : Nat → Prop
  v : Value
  u : Value
  E : Nat → Prop
  F : Nat → Prop
def rtC (c : Cl) (A : List Wt) (j : Nat) : Cl := { c with opn := A ++ c.opn.drop j, done := c.done ++ tkD c (c.opn.take j) }
structure RI (H0 : Heap) (w0 : World) (n0 T : Nat) (D : Nat → Prop) (c : Cl) (s : RS) (n : Nat) (H : Heap) : Prop where
  jl : s.j ≤ c.opn.length
  nl : n0 ≤ n
  cli : RclR H w0 n T s.D (rtC c s.A s.j) s.v s.u s.E s.F
  kept : s.A = tkW c (c.opn.take s.j)
  out : OwR ⟨Try.prog, w0⟩ H n s.G 35 3 Ask.cells s.x (tkA c (c.opn.take s.j))
  fr : ∀ i, i < n0 → ¬ D i → H i = H0 i
  dd : ∀ i, s.D i → D i ∨ n0 ≤ i
  gg : ∀ i, s.G i → n0 ≤ i ∧ ¬ s.D i
theorem set_mid {α : Type} {A R : List α} {x y : α} {j : Nat} (h : j = A.length) : (A ++ x :: R).set j y = A ++ y :: R := by
  subst h
  rw [List.set_append_right _ _ (by omega)]; simp
theorem RTick_ok {T : Nat} {D E F : Nat → Prop} {c : Cl} {v u : Value} (h : RclR H w0 n T D c v u E F) (hl : c.opn.length ≤ 100) (hl2 : c.done.length ≤ 800) (hw : ∀ w ∈ c.opn, 0 ≤ w.wait ∧ w.wait < c.pat ∧ 0 ≤ w.rep ∧ w.rep ≤ 1000000) (hpat : c.pat ≤ 1000)
    (hk : ∀ n' H' D' v' u' E' F' x G, n ≤ n' → (∀ i, i < n → ¬ D i → H' i = H i) → (∀ i, D' i → D i ∨ n ≤ i) → RclR H' w0 n' T D' (tickP c).2 v' u' E' F' → OwR ⟨Try.prog, w0⟩ H' n' G 35 3 Ask.cells x (tickP c).1 → (∀ i, G i → n ≤ i ∧ ¬ D' i) → K x n' H') :
    ACall ⟨Try.prog, w0⟩ 26 [.pointer (some ⟨new T, 0, none⟩)] K n H := by
  have hlt : T < n := h.s.2.2
  refine ACall.run Try.func26 rfl Try.ntmps26 Try.results26 (by simp) fun J0 => ?_
  simp (disch := omega) [-hset_if, -Bool.decide_and, hset_ne]
  have h0 := h.frame (n' := n + 1) (H' := hset n (.cells [] 35 3) H) (by omega) (fun i hi => hset_ne (by have := h.lt hi; omega) _ _)
  refine AW.while (σ := RS) (fun s => c.opn.length - s.j) (fun s => [(0, .pointer (some ⟨new T, 0, none⟩)), (3, s.x), (4, .int .i64 (s.A.length : Int))])
    (RI H w0 n T D c) ⟨0, [], .slice (some ⟨new n, 0, none⟩) 0 0, (· = n), D, v, u, E, F⟩ ?_ ?_ ?_
  · simp (disch := omega) [-hset_if, -Bool.decide_and, hset_ne]
  · refine ⟨by dsimp only; omega, by omega, ?_, rfl, OwR.empty (by omega) (by omega) (hset_same _ _ _), fun i hi _ => hset_ne (by omega) _ _, fun i h => .inl h, fun i hi => ⟨by dsimp only at hi; omega, fun y => by have := h.lt y; dsimp only at hi; omega⟩⟩
    have e : rtC c [] 0 = c := by unfold rtC tkD; simp
    dsimp only
    rw [e]; exact h0
  rintro ⟨j, A, x, G, D', v', u', E', F'⟩ n2 H2 ⟨g1, g2, g3, g4, g5, g6, g7, g8⟩
  dsimp only at g1 g2 g3 g4 g5 g6 g7 g8
  have hT2 : H2 T = .cells [.int .i64 c.pat, .int .i64 c.ret, .int .i64 c.boot, .int .i64 (c.sent + 1), v', u'] 71 1 := g3.self
  have hL : (rtC c A j).opn = A ++ c.opn.drop j := rfl
  have hLl : (A ++ c.opn.drop j).length = A.length + (c.opn.length - j) := by simp
  have ho2 : OwR ⟨Try.prog, w0⟩ H2 n2 E' 107 6 Wt.cells v' (A ++ c.opn.drop j) := g3.op
  have hAl : A.length ≤ c.opn.length := by rw [g4]; exact fm_len _ _ _
  simp (disch := omega) [-hset_if, -Bool.decide_and, hset_ne, hT2, ho2.sl.lenK, hLl]
  refine cif_dec (fun b1 => ?_) (fun b1 => ?_)
  rotate_left
  · have hj : j = c.opn.length := by omega
    rw [hj, List.take_length] at g4 g5
    simp (disch := omega) [-hset_if, -Bool.decide_and, hset_ne]
    refine Fin_id ?_
    refine hk _ _ D' v' u' E' F' x G g2 g6 g7 ?_ g5 g8
    have e : rtC c A j = (tickP c).2 := by
      unfold rtC tickP
      rw [hj, List.take_length, List.drop_of_length_le (by omega), List.append_nil, g4]
    rw [← e]; exact g3
  have hjl : j < c.opn.length := by omega
  obtain ⟨t1, t2, t3⟩ := tk_next c (l := c.opn) (j := j) hjl
  have hww := hw (at_ c.opn (j : Int)) (at_mem hjl)
  have hdrop : c.opn.drop j = at_ c.opn (j : Int) :: c.opn.drop (j + 1) := drop_at hjl
  generalize hwe : at_ c.opn (j : Int) = w at *
  rw [hdrop] at ho2 hLl
  have hatA : at_ (A ++ w :: c.opn.drop (j + 1)) (A.length : Int) = w := at_split
  have hix : (A.length : Int) < ((A ++ w :: c.opn.drop (j + 1)).length : Int) := by rw [hLl]; omega
  obtain ⟨s1, s2, s3⟩ := g3.s
  have hDT := (g3.d T).2 (.inl rfl)
  have hDE : ∀ i, E' i → D' i := fun i hi => (g3.d i).2 (.inr (.inl hi))
  have nextI : ∀ n4 H4 A4 x4 G4 D4 v4 u4 E4 F4, n2 ≤ n4 → RclR H4 w0 n4 T D4 { c with opn := A4 ++ c.opn.drop (j + 1), done := c.done ++ tkD c (c.opn.take (j + 1)) } v4 u4 E4 F4 → A4 = tkW c (c.opn.take (j + 1)) →
      OwR ⟨Try.prog, w0⟩ H4 n4 G4 35 3 Ask.cells x4 (tkA c (c.opn.take (j + 1))) → (∀ i, i < n2 → ¬ D' i → ¬ G i → H4 i = H2 i) → (∀ i, D4 i → D' i ∨ n2 ≤ i) → (∀ i, G4 i → G i ∨ n2 ≤ i) → (∀ i, G4 i → ¬ D4 i) → RI H w0 n T D c ⟨j + 1, A4, x4, G4, D4, v4, u4, E4, F4⟩ n4 H4 := by
    intro n4 H4 A4 x4 G4 D4 v4 u4 E4 F4 z1 z2 z3 z4 z5 z6 z7 z8
    refine ⟨by dsimp only; omega, by omega, z2, z3, z4, fun i hi hD => ?_, fun i hi => ?_, fun i hi => ⟨?_, z8 i hi⟩⟩
    · rw [z5 i (by omega) (fun y => by rcases g7 i y with k | k; exact hD k; omega) (fun y => by have := g8 i y; omega)]
      exact g6 i hi hD
    · rcases z6 i hi with k | k
      · exact g7 i k
      · exact .inr (by omega)
    · rcases z7 i hi with k | k
      · exact (g8 i k).1
      · omega
  have hGE : ∀ i, G i → ¬ E' i := fun i hi y => (g8 i hi).2 (hDE i y)
  simp (disch := omega) [-hset_if, -Bool.decide_and, hset_ne, hT2, ho2.sl.ix elemS69, hix, ho2.sl.load shp3, hatA]
  refine ho2.store (off := 5) shp3 (by omega) hix rfl rfl (by omega) { w with wait := w.wait + 1 } (by rw [hatA]; rfl) ?_
  intro H3 x1 x2
  rw [set_mid (by simp)] at x2
  have g3' : RclR H3 w0 n2 T D' { rtC c A j with opn := A ++ { w with wait := w.wait + 1 } :: c.opn.drop (j + 1) } v' u' E' F' := g3.setW (Nat.le_refl _) x2 x1
  have hT3 : H3 T = .cells [.int .i64 c.pat, .int .i64 c.ret, .int .i64 c.boot, .int .i64 (c.sent + 1), v', u'] 71 1 := by rw [x1 T s1]; exact hT2
  have hat3 : at_ (A ++ { w with wait := w.wait + 1 } :: c.opn.drop (j + 1)) (A.length : Int) = { w with wait := w.wait + 1 } := at_split
  have hix3 : (A.length : Int) < ((A ++ { w with wait := w.wait + 1 } :: c.opn.drop (j + 1)).length : Int) := by simp; omega
  have g5' : OwR ⟨Try.prog, w0⟩ H3 n2 G 35 3 Ask.cells x (tkA c (c.opn.take j)) := g5.frame (Nat.le_refl _) (fun i hi => x1 i (hGE i hi))
  simp (disch := omega) [-hset_if, -Bool.decide_and, hset_ne, hT3, x2.sl.ix elemS69, hix3, x2.sl.load0 shp107, hat3]
  have g3b := g3'.frame (n' := n2 + 1) (H' := hset n2 (.cells [.int .i64 w.boot, .int .i64 w.inv, .string w.data, .bool w.known, .int .i64 w.rep, .int .i64 (w.wait + 1)] 107 1) H3) (by omega) (fun i hi => hset_ne (by have := g3.lt hi; omega) _ _)
  have x2b := x2.frame (m := n2 + 1) (H' := hset n2 (.cells [.int .i64 w.boot, .int .i64 w.inv, .string w.data, .bool w.known, .int .i64 w.rep, .int .i64 (w.wait + 1)] 107 1) H3) (by omega) (fun i hi => hset_ne (by have := x2.lt i hi; omega) _ _)
  have g5b := g5'.frame (m := n2 + 1) (H' := hset n2 (.cells [.int .i64 w.boot, .int .i64 w.inv, .string w.data, .bool w.known, .int .i64 w.rep, .int .i64 (w.wait + 1)] 107 1) H3) (by omega) (fun i hi => hset_ne (by have := g5.lt i hi; omega) _ _)
  generalize hH4 : hset n2 _ H3 = H4 at *
  have hW4 : H4 n2 = .cells [.int .i64 w.boot, .int .i64 w.inv, .string w.data, .bool w.known, .int .i64 w.rep, .int .i64 (w.wait + 1)] 107 1 := by rw [← hH4, hset_same]
  have hfr4 : ∀ i, i < n2 → ¬ E' i → H4 i = H2 i := fun i hi hE => by rw [← hH4, hset_ne (by omega), x1 i hE]
  clear hH4
  have hT4 : H4 T = .cells [.int .i64 c.pat, .int .i64 c.ret, .int .i64 c.boot, .int .i64 (c.sent + 1), v', u'] 71 1 := by rw [hfr4 T s3 s1]; exact hT2
  refine AW.draw (X := ⟨_, 84, _, _⟩) (id := 6) mixed (.take 0 <| .take 1 <| .take 2 <| .take 3 <| .take 4 <| .take 5 <| .take 6 <| .done) (by kernel_rfl) ?_
  simp (disch := omega) [-hset_if, -Bool.decide_and, hset_ne, hW4, hT4]
  refine cif_dec (fun c1 => ?_) (fun c1 => ?_)
  · have et : tk1 c.pat c.ret w = (some { w with wait := w.wait + 1 }, none, none) := by unfold tk1; rw [if_pos (by omega)]
    rw [et] at t1 t2 t3
    simp only [Option.toList_some, Option.toList_none, List.append_nil] at t1 t2 t3
    simp (disch := omega) [-hset_if, -Bool.decide_and, hset_ne]
    refine Next.mk ⟨j + 1, A ++ [{ w with wait := w.wait + 1 }], x, G, D', v', u', E', F'⟩ (by first | omega | (dsimp only; omega)) (by simp (disch := omega) [-hset_if, -Bool.decide_and, hset_ne]) (nextI (n2 + 1) H4 _ x G D' v' u' E' F' (by omega) ?_ ?_ ?_ (fun i hi hD _ => hfr4 i hi (fun y => hD (hDE i y))) (fun i h => .inl h) (fun i h => .inl h) (fun i hi => (g8 i hi).2))
    · rw [t3]
      simpa [rtC] using g3b
    · rw [t1, g4]
    · rw [t2]; exact g5b
  simp (disch := omega) [-hset_if, -Bool.decide_and, hset_ne]
  refine AW.draw (X := ⟨_, 84, _, _⟩) (id := 8) mixed (.take 0 <| .take 1 <| .take 2 <| .take 3 <| .take 4 <| .take 5 <| .take 6 <| .done) (by kernel_rfl) ?_
  simp (disch := omega) [-hset_if, -Bool.decide_and, hset_ne, hW4, hT4]
  refine cif_beq (fun c2 => ?_) (fun c2 => ?_)
  · have et : tk1 c.pat c.ret w = (none, none, some ⟨w.boot, w.inv, 17, ⟨#[]⟩⟩) := by unfold tk1; rw [if_neg (by omega), if_pos c2]
    rw [et] at t1 t2 t3
    simp only [Option.toList_some, Option.toList_none, List.append_nil] at t1 t2 t3
    simp (disch := omega) [-hset_if, -Bool.decide_and, hset_ne, hW4]
    have hdl : (tkD c (c.opn.take j)).length ≤ c.opn.length := fm_len _ _ _
    refine end_ok (j := A.length) (a := ⟨w.boot, w.inv, 17, ⟨#[]⟩⟩) g3b (by simp) (by simp; omega) (by simp [rtC]; omega) ?_
    intro n5 H5 D5 v5 u5 E5 F5 d1 d2 d3 d4
    simp (disch := omega) [-hset_if, -Bool.decide_and, hset_ne]
    refine Next.mk ⟨j + 1, A, x, G, D5, v5, u5, E5, F5⟩ (by first | omega | (dsimp only; omega)) (by simp (disch := omega) [-hset_if, -Bool.decide_and, hset_ne]) (nextI n5 H5 A x G D5 v5 u5 E5 F5 (by omega) ?_ ?_ ?_ (fun i hi hD hG => ?_) (fun i hi => ?_) (fun i h => .inl h) (fun i hi y => ?_))
    · rw [t3]
      simpa [endC, rtC] using d4
    · rw [t1, g4]
    · rw [t2]
      exact g5b.frame d1 (fun i hi => d2 i (by have := g5.lt i hi; omega) (g8 i hi).2)
    · rw [d2 i (by omega) hD, hfr4 i hi (fun y => hD (hDE i y))]
    · rcases d3 i hi with k | k
      · exact .inl k
      · exact .inr (by omega)
    · rcases d3 i y with k | k
      · exact (g8 i hi).2 k
      · have := g5.lt i hi; omega
  · have et : tk1 c.pat c.ret w = (some { w with rep := w.rep + 1, wait := 0 }, some w.ask, none) := by unfold tk1; rw [if_neg (by omega), if_neg c2]
    rw [et] at t1 t2 t3
    simp only [Option.toList_some, Option.toList_none, List.append_nil] at t1 t2 t3
    simp (disch := omega) [-hset_if, -Bool.decide_and, hset_ne, hT4, x2b.sl.ix elemS69, hix3, x2b.sl.load shp3, hat3]
    refine x2b.store (off := 4) shp3 (by omega) hix3 rfl rfl (by omega) { w with wait := w.wait + 1, rep := w.rep + 1 } (by rw [hat3]; rfl) ?_
    intro H5 y1 y2
    rw [set_mid (by simp)] at y2
    have hT5 : H5 T = .cells [.int .i64 c.pat, .int .i64 c.ret, .int .i64 c.boot, .int .i64 (c.sent + 1), v', u'] 71 1 := by rw [y1 T s1]; exact hT4
    have hix5 : (A.length : Int) < ((A ++ { w with wait := w.wait + 1, rep := w.rep + 1 } :: c.opn.drop (j + 1)).length : Int) := by simp; omega
    have hat5 : at_ (A ++ { w with wait := w.wait + 1, rep := w.rep + 1 } :: c.opn.drop (j + 1)) (A.length : Int) = { w with wait := w.wait + 1, rep := w.rep + 1 } := at_split
    simp (disch := omega) [-hset_if, -Bool.decide_and, hset_ne, hT5, y2.sl.ix elemS69, hix5]
    refine y2.store (off := 5) shp3 (by omega) hix5 rfl rfl (by omega) { w with rep := w.rep + 1, wait := 0 } (by rw [hat5]; rfl) ?_
    intro H6 z1 z2
    rw [set_mid (by simp)] at z2
    have hEn : ∀ i, E' i → i < n2 := g3.op.lt
    have hW6 : H6 n2 = .cells [.int .i64 w.boot, .int .i64 w.inv, .string w.data, .bool w.known, .int .i64 w.rep, .int .i64 (w.wait + 1)] 107 1 := by rw [z1 n2 (fun y => by have := hEn n2 y; omega), y1 n2 (fun y => by have := hEn n2 y; omega)]; exact hW4
    have g6' : RclR H6 w0 (n2 + 1) T D' { rtC c A j with opn := A ++ { w with rep := w.rep + 1, wait := 0 } :: c.opn.drop (j + 1) } v' u' E' F' := g3b.setW (Nat.le_refl _) z2 (fun i hi => by rw [z1 i hi, y1 i hi])
    have g56 : OwR ⟨Try.prog, w0⟩ H6 (n2 + 1) G 35 3 Ask.cells x (tkA c (c.opn.take j)) := g5b.frame (Nat.le_refl _) (fun i hi => by rw [z1 i (hGE i hi), y1 i (hGE i hi)])
    have hal : (tkA c (c.opn.take j)).length ≤ c.opn.length := fm_len _ _ _
    simp (disch := omega) [-hset_if, -Bool.decide_and, hset_ne, hW6]
    refine g56.push elemS60 zero35 (by simp) w.ask rfl rfl rfl (by omega) (by omega) ?_
    intro x7 n7 H7 G7 q1 q2 q3 q4 q5
    simp (disch := omega) [-hset_if, -Bool.decide_and, hset_ne]
    have hDn : ∀ i, D' i → i < n2 := fun i hi => g3.lt hi
    refine Next.mk ⟨j + 1, A ++ [{ w with rep := w.rep + 1, wait := 0 }], x7, G7, D', v', u', E', F'⟩ (by first | omega | (dsimp only; omega)) (by simp (disch := omega) [-hset_if, -Bool.decide_and, hset_ne]) (nextI n7 H7 _ x7 G7 D' v' u' E' F' (by omega) ?_ ?_ ?_ (fun i hi hD hG => ?_) (fun i h => .inl h) (fun i hi => ?_) (fun i hi y => ?_))
    · have := g6'.frame (n' := n7) (H' := H7) (by omega) (fun i hi => q3 i (by have := hDn i hi; omega) (fun y => (g8 i y).2 hi))
      rw [t3]
      simpa [rtC] using this
    · rw [t1, g4]
    · rw [t2]; exact q5
    · rw [q3 i (by omega) hG, z1 i (fun y => hD (hDE i y)), y1 i (fun y => hD (hDE i y)), hfr4 i hi (fun y => hD (hDE i y))]
    · rcases q4 i hi with k | k
      · exact .inl k
      · exact .inr (by omega)
    · rcases q4 i hi with k | k
      · exact (g8 i k).2 y
      · have := hDn i y; omega
end Go.Aw.S50
