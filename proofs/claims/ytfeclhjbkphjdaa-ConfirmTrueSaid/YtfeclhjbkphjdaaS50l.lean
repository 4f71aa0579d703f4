/-
  Chapter 50: the client's lists; time passes.
-/
import Derived.Test.YtfeclhjbkphjdaaS50k
namespace Go.Aw.S50
open Go.RowKit Go.Proofs Go.Aw.Tab
set_option linter.unusedSimpArgs false
set_option linter.unusedVariables false
set_option maxRecDepth 10000
set_option maxHeartbeats 2000000
set_option pp.deepTerms false
set_option pp.deepTerms.threshold 4
set_option pp.maxSteps 1500
variable {w0 : World} {n : Nat} {H : Heap} {K : Value → Nat → Heap → Prop}
def intC (x : Int) : List Value := [.int .i64 x]
attribute [local simp] Ans.cells Ask.cells Opn.cells Wt.cells Qt.cells intC
/-- The numbers of pending requests. -/
def invs (l : List Wt) : List Int := l.map (·.inv)
theorem CliR.at {S : Nat} {D E F : Nat → Prop} {c : Cl} {P : List (Wt × Nat)} {v u : Value} (h : CliR H w0 n S D c P v u E F) {j : Nat} (hj : j < c.opn.length) : ∃ P1 w q P2, P = P1 ++ (w, q) :: P2 ∧ P1.length = j ∧ at_ (qts P) (j : Int) = ⟨q⟩ ∧ at_ c.opn (j : Int) = w ∧ c.opn = P1.map Prod.fst ++ w :: P2.map Prod.fst ∧ H q = .cells w.cells 105 1 ∧ j < (qts P).length := by
  obtain ⟨P1, ⟨w, q⟩, P2, rfl, hP1⟩ := split_at (l := P) (j := j) (by rw [h.opn] at hj; simpa using hj)
  have hopn : c.opn = P1.map Prod.fst ++ w :: P2.map Prod.fst := by rw [h.opn]; simp
  refine ⟨P1, w, q, P2, rfl, hP1, ?_, ?_, hopn, h.pen (w, q) (by simp), by simp [qts]; omega⟩
  · have : qts (P1 ++ (w, q) :: P2) = qts P1 ++ ⟨q⟩ :: qts P2 := by simp [qts]
    have hl1 : (qts P1).length = j := by simp [qts, hP1]
    rw [this, ← hl1]; exact at_split
  · have hl1 : (P1.map Prod.fst).length = j := by simp [hP1]
    rw [hopn, ← hl1]; exact at_split
theorem Pending_ok {S : Nat} {D E F : Nat → Prop} {c : Cl} {P : List (Wt × Nat)} {v u : Value} (h : CliR H w0 n S D c P v u E F) (hl : c.opn.length ≤ 1000)
    (hk : ∀ n' H' x G, n ≤ n' → (∀ i, i < n → H' i = H i) → OwR ⟨Try.prog, w0⟩ H' n' G 3 1 intC x (invs c.opn) → (∀ i, G i → n ≤ i) → K x n' H') : ACall ⟨Try.prog, w0⟩ 28 [.pointer (some ⟨new S, 0, none⟩)] K n H := by
  have hself := h.self
  have hEn := h.op.lt
  have hop := h.op.sl
  have hlen : (qts P).length = c.opn.length := by rw [h.opn]; simp [qts]
  refine ACall.run Try.func28 rfl Try.ntmps28 Try.results28 (by simp) fun J0 => ?_
  simp (disch := omega) [-hset_if, -Bool.decide_and, hset_ne, hself, hop.lenK, hlen]
  refine AW.while (σ := Nat × Value × (Nat → Prop)) (fun s => c.opn.length - s.1) (fun s => [(3, s.2.1), (9, v), (10, .int .i64 c.opn.length), (11, .int .i64 (s.1 : Int))])
    (fun s n1 H1 => s.1 ≤ c.opn.length ∧ n ≤ n1 ∧ (∀ i, i < n → H1 i = H i) ∧ OwR ⟨Try.prog, w0⟩ H1 n1 s.2.2 3 1 intC s.2.1 (invs (c.opn.take s.1)) ∧ ∀ i, s.2.2 i → n ≤ i) (0, .slice none 0 0, fun _ => False) ?_ ?_ ?_
  · simp (disch := omega) [-hset_if, -Bool.decide_and, hset_ne]
  · exact ⟨by omega, Nat.le_refl _, fun _ _ => rfl, OwR.nil (by omega), fun _ h => h.elim⟩
  rintro ⟨j, x, G⟩ n1 H1 ⟨g1, g2, g3, g4, g5⟩
  dsimp only at g1 g4 g5 ⊢
  have h1 := h.frame g2 (fun i hi => g3 i (h.lt hi))
  simp (disch := omega) [-hset_if, -Bool.decide_and, hset_ne]
  refine cif_dec (fun b1 => ?_) (fun b1 => ?_)
  · obtain ⟨P1, w, q, P2, e1, e2, e3, e4, e5, e6, e7⟩ := h1.at (j := j) (by omega)
    have e6' : H1 q = .cells [.int .i64 w.boot, .int .i64 w.inv, .string w.data, .bool w.known, .int .i64 w.rep, .int .i64 w.wait] 105 1 := e6
    simp (disch := omega) [-hset_if, -Bool.decide_and, hset_ne, h1.op.sl.ix elemS100, h1.op.sl.load0 shp103, e3, e6']
    refine g4.push elemS64 zero3 (by simp) w.inv rfl rfl rfl (by simp [invs]; omega) (by simp [invs]; omega) ?_
    intro x2 n2 H2 G2 q1 q2 q3 q4 q5
    simp (disch := omega) [-hset_if, -Bool.decide_and, hset_ne]
    refine Next.mk (j + 1, x2, G2) (by first | omega | (dsimp only; omega)) (by simp (disch := omega) [-hset_if, -Bool.decide_and, hset_ne]) ⟨by dsimp only; omega, by omega, fun i hi => ?_, ?_, fun i hi => ?_⟩
    · rw [q3 i (by omega) (fun y => by have := g5 i y; omega), g3 i hi]
    · dsimp only
      have : invs (c.opn.take (j + 1)) = invs (c.opn.take j) ++ [w.inv] := by rw [take_next (by omega), e4]; simp [invs]
      rw [this]; exact q5
    · rcases q4 i hi with z | z
      · exact g5 i z
      · omega
  · simp (disch := omega) [-hset_if, -Bool.decide_and, hset_ne]
    refine Fin_id ?_
    rw [List.take_of_length_le (by omega)] at g4
    exact hk _ _ _ _ g2 g3 g4 g5
theorem Done_ok {S : Nat} {D E F : Nat → Prop} {c : Cl} {P : List (Wt × Nat)} {v u : Value} (h : CliR H w0 n S D c P v u E F) (hl : c.done.length ≤ 1000)
    (hk : ∀ n' H' x G, n ≤ n' → (∀ i, i < n → H' i = H i) → OwR ⟨Try.prog, w0⟩ H' n' G 33 4 Ans.cells x c.done → (∀ i, G i → n ≤ i) → K x n' H') : ACall ⟨Try.prog, w0⟩ 31 [.pointer (some ⟨new S, 0, none⟩)] K n H := by
  have hself := h.self
  refine ACall.run Try.func31 rfl Try.ntmps31 Try.results31 (by simp) fun J0 => ?_
  simp (disch := omega) [-hset_if, -Bool.decide_and, hset_ne, hself]
  refine cloneAns_ok h.dn.sl h.dn.lt (fun _ _ => rfl) (by omega) (by omega) ?_
  intro x n1 H1 G g1 g2 g3 g4
  simp (disch := omega) [-hset_if, -Bool.decide_and, hset_ne]
  refine Fin_id ?_
  exact hk _ _ _ _ g1 g2 g4 (fun i hi => (g3 i hi).1)
/-- A tick of a pending request: what is left of it, what is sent, its outcome. -/
def tk1 (p r : Int) (w : Wt) : Option Wt × Option Ask × Option Ans :=
  if w.wait + 1 ≠ p then (some { w with wait := w.wait + 1 }, none, none)
  else if w.rep = r then (none, none, some ⟨w.boot, w.inv, 17, ⟨#[]⟩⟩)
  else (some { w with rep := w.rep + 1, wait := 0 }, some w.ask, none)
def tkW (c : Cl) (l : List Wt) : List Wt := l.filterMap fun w => (tk1 c.pat c.ret w).1
def tkA (c : Cl) (l : List Wt) : List Ask := l.filterMap fun w => (tk1 c.pat c.ret w).2.1
def tkD (c : Cl) (l : List Wt) : List Ans := l.filterMap fun w => (tk1 c.pat c.ret w).2.2
/-- Rule 3. -/
def tickP (c : Cl) : List Ask × Cl := (tkA c c.opn, { c with opn := tkW c c.opn, done := c.done ++ tkD c c.opn })
structure TS where
  j : Nat
  A : List (Wt × Nat)
  x : Value
  G : Nat → Prop
  D : Nat → Prop
  v : Value
  u : Value
  E : Nat → Prop
  F : Nat → Prop
/-- The client behind j pending requests of a tick. -/
def tkC (c : Cl) (P A : List (Wt × Nat)) (j : Nat) : Cl := { c with opn := (A ++ P.drop j).map Prod.fst, done := c.done ++ tkD c (c.opn.take j) }
structure TI (H0 : Heap) (w0 : World) (n0 S : Nat) (D : Nat → Prop) (c : Cl) (P : List (Wt × Nat)) (y : Value) (Y : Nat → Prop) (s : TS) (n : Nat) (H : Heap) : Prop where
  jl : s.j ≤ c.opn.length
  nl : n0 ≤ n
  cli : CliR H w0 n S s.D (tkC c P s.A s.j) (s.A ++ P.drop s.j) s.v s.u s.E s.F
  kept : s.A.map Prod.fst = tkW c (c.opn.take s.j)
  out : OwR ⟨Try.prog, w0⟩ H n s.G 35 3 Ask.cells s.x (tkA c (c.opn.take s.j))
  old : OwR ⟨Try.prog, w0⟩ H n Y 103 1 Qt.cells y (qts P)
  fr : ∀ i, i < n0 → ¬ D i → H i = H0 i
  dd : ∀ i, s.D i → D i ∨ n0 ≤ i
  gg : ∀ i, s.G i → n0 ≤ i ∧ ¬ s.D i ∧ ¬ Y i
  yy : ∀ i, Y i → n0 ≤ i ∧ ¬ s.D i
theorem tk_next (c : Cl) {l : List Wt} {j : Nat} (h : j < l.length) : tkW c (l.take (j + 1)) = tkW c (l.take j) ++ (tk1 c.pat c.ret (at_ l (j : Int))).1.toList ∧ tkA c (l.take (j + 1)) = tkA c (l.take j) ++ (tk1 c.pat c.ret (at_ l (j : Int))).2.1.toList ∧ tkD c (l.take (j + 1)) = tkD c (l.take j) ++ (tk1 c.pat c.ret (at_ l (j : Int))).2.2.toList := by
  rw [take_next h]
  unfold tkW tkA tkD
  refine ⟨?_, ?_, ?_⟩ <;> (rw [List.filterMap_append, List.filterMap_cons]; split <;> simp_all)
theorem fm_len {α β : Type} (f : α → Option β) (l : List α) (j : Nat) : ((l.take j).filterMap f).length ≤ l.length := by
  have := List.length_filterMap_le f (l.take j)
  simp at this; omega
theorem Tick_ok {S : Nat} {D E F : Nat → Prop} {c : Cl} {P : List (Wt × Nat)} {v u : Value} (h : CliR H w0 n S D c P v u E F) (hl : c.opn.length ≤ 100) (hl2 : c.done.length ≤ 800) (hw : ∀ w ∈ c.opn, 0 ≤ w.wait ∧ w.wait ≤ 1000000 ∧ 0 ≤ w.rep ∧ w.rep ≤ 1000000)
    (hk : ∀ n' H' D' P' v' u' E' F' x G, n ≤ n' → (∀ i, i < n → ¬ D i → H' i = H i) → (∀ i, D' i → D i ∨ n ≤ i) → CliR H' w0 n' S D' (tickP c).2 P' v' u' E' F' → OwR ⟨Try.prog, w0⟩ H' n' G 35 3 Ask.cells x (tickP c).1 → (∀ i, G i → n ≤ i ∧ ¬ D' i) → K x n' H') :
    ACall ⟨Try.prog, w0⟩ 25 [.pointer (some ⟨new S, 0, none⟩)] K n H := by
  have hself := h.self
  obtain ⟨s1, s2, s3, s4⟩ := h.s
  have hEn := h.op.lt
  have hop := h.op.sl
  have hDS := (h.d S).2 (.inl rfl)
  have hlen : (qts P).length = c.opn.length := by rw [h.opn]; simp [qts]
  refine ACall.run Try.func25 rfl Try.ntmps25 Try.results25 (by simp) fun J0 => ?_
  simp (disch := omega) [-hset_if, -Bool.decide_and, hset_ne, hself]
  refine cloneQt_ok hop hEn (fun _ _ => rfl) (by omega) (by omega) ?_
  intro y n1 H1 Y a1 a2 a3 a4
  have h1 := h.frame a1 (fun i hi => a2 i (h.lt hi))
  have hYl := a4.sl.lenK
  rw [hlen] at hYl
  simp (disch := omega) [-hset_if, -Bool.decide_and, hset_ne, hYl]
  refine AW.while (σ := TS) (fun s => c.opn.length - s.j) (fun s => [(0, .pointer (some ⟨new S, 0, none⟩)), (3, s.x), (10, y), (11, .int .i64 c.opn.length), (12, .int .i64 (s.j : Int))])
    (TI H w0 n S D c P y Y) ⟨0, [], .slice none 0 0, fun _ => False, D, v, u, E, F⟩ ?_ ?_ ?_
  · simp (disch := omega) [-hset_if, -Bool.decide_and, hset_ne]
  · refine ⟨by dsimp only; omega, by omega, ?_, rfl, OwR.nil (by omega), a4, fun i hi _ => a2 i hi, fun i h => .inl h, fun _ h => h.elim, fun i hi => ⟨(a3 i hi).1, fun y => by have := h.lt y; have := (a3 i hi).1; omega⟩⟩
    have e : tkC c P [] 0 = c := by unfold tkC tkD; simp [← h.opn]
    dsimp only
    rw [e]
    exact h1
  rintro ⟨j, A, x, G, D', v', u', E', F'⟩ n2 H2 ⟨g1, g2, g3, g4, g5, g6, g7, g8, g9, g10⟩
  dsimp only at g1 g2 g3 g4 g5 g6 g7 g8 g9 g10
  simp (disch := omega) [-hset_if, -Bool.decide_and, hset_ne]
  refine cif_dec (fun b1 => ?_) (fun b1 => ?_)
  rotate_left
  · have hj : j = c.opn.length := by omega
    have hPl : P.length = c.opn.length := by rw [h.opn]; simp
    rw [hj, List.take_length] at g4 g5
    simp (disch := omega) [-hset_if, -Bool.decide_and, hset_ne]
    refine Fin_id ?_
    refine hk _ _ D' (A ++ P.drop j) v' u' E' F' x G g2 g7 g8 ?_ g5 (fun i hi => ⟨(g9 i hi).1, (g9 i hi).2.1⟩)
    have e : tkC c P A j = (tickP c).2 := by
      unfold tkC tickP
      rw [hj, List.take_length, List.drop_of_length_le (by omega), List.append_nil, g4]
    rw [← e]; exact g3
  obtain ⟨P1, w, q, P2, e1, e2, e3, e4, e5, e6, e7⟩ := h1.at (j := j) (by omega)
  have hdrop : P.drop j = (w, q) :: P2 := by rw [e1, ← e2]; simp
  have hdrop1 : P.drop (j + 1) = P2 := by rw [e1, ← e2]; simp
  obtain ⟨t1, t2, t3⟩ := tk_next c (l := c.opn) (j := j) (by omega)
  rw [e4] at t1 t2 t3
  have hww := hw w (by rw [e5]; simp)
  rw [hdrop] at g3
  have hq2 : H2 q = .cells [.int .i64 w.boot, .int .i64 w.inv, .string w.data, .bool w.known, .int .i64 w.rep, .int .i64 w.wait] 105 1 := g3.pen (w, q) (by simp)
  have hS2 := g3.self
  have hDq : D' q := (g3.d q).2 (.inr (.inr (.inr ⟨(w, q), by simp, rfl⟩)))
  have hqS : q ≠ S := (g3.s.2.2.2 (w, q) (by simp)).1
  have hqn : q < n2 := (g3.s.2.2.2 (w, q) (by simp)).2.1
  have hS2' : H2 S = .cells [.int .i64 c.pat, .int .i64 c.ret, .int .i64 c.boot, .int .i64 c.sent, v', u'] 102 1 := hS2
  simp (disch := omega) [-hset_if, -Bool.decide_and, hset_ne, g6.sl.ix elemS100, g6.sl.load0 shp103, e3, e7, hq2]
  have hDn2 : ∀ i, D' i → i < n2 := fun i hi => g3.lt hi
  have hGn2 := g5.lt
  have hYn2 := g6.lt
  have hqG : ¬ G q := fun y => (g9 q y).2.1 hDq
  have hqY : ¬ Y q := fun y => (g10 q y).2 hDq
  have hfrq : ∀ i, i < n → ¬ D i → i ≠ q := fun i hi hD e => by
    subst e
    rcases g8 _ hDq with z | z
    · exact hD z
    · omega
  -- the state behind a round
  have nextI : ∀ n4 H4 A4 x4 G4 D4 v4 u4 E4 F4, n2 ≤ n4 → CliR H4 w0 n4 S D4 { c with opn := (A4 ++ P2).map Prod.fst, done := c.done ++ tkD c (c.opn.take (j + 1)) } (A4 ++ P2) v4 u4 E4 F4 → A4.map Prod.fst = tkW c (c.opn.take (j + 1)) →
      OwR ⟨Try.prog, w0⟩ H4 n4 G4 35 3 Ask.cells x4 (tkA c (c.opn.take (j + 1))) → (∀ i, i < n2 → ¬ D' i → ¬ G i → H4 i = H2 i) → (∀ i, D4 i → D' i ∨ n2 ≤ i) → (∀ i, G4 i → G i ∨ n2 ≤ i) → (∀ i, G4 i → ¬ D4 i) → TI H w0 n S D c P y Y ⟨j + 1, A4, x4, G4, D4, v4, u4, E4, F4⟩ n4 H4 := by
    intro n4 H4 A4 x4 G4 D4 v4 u4 E4 F4 z1 z2 z3 z4 z5 z6 z7 z8
    refine ⟨by dsimp only; omega, by omega, ?_, z3, z4, g6.frame z1 (fun i hi => z5 i (hYn2 i hi) (g10 i hi).2 (fun y => (g9 i y).2.2 hi)), fun i hi hD => ?_, fun i hi => ?_, fun i hi => ⟨?_, z8 i hi, fun y => ?_⟩, fun i hi => ⟨(g10 i hi).1, fun y => ?_⟩⟩
    · dsimp only
      unfold tkC
      rw [hdrop1]; exact z2
    · rw [z5 i (by omega) (fun y => by rcases g8 i y with k | k; exact hD k; omega) (fun y => by have := g9 i y; omega)]
      exact g7 i hi hD
    · rcases z6 i hi with k | k
      · exact g8 i k
      · exact .inr (by omega)
    · rcases z7 i hi with k | k
      · exact (g9 i k).1
      · omega
    · rcases z7 i hi with k | k
      · exact (g9 i k).2.2 y
      · have := hYn2 i y; omega
    · rcases z6 i y with k | k
      · exact (g10 i hi).2 k
      · have := hYn2 i hi; omega
  have g3' := g3.setP (w' := { w with wait := w.wait + 1 }) rfl (Nat.le_refl _) (H' := hset q (.cells [.int .i64 w.boot, .int .i64 w.inv, .string w.data, .bool w.known, .int .i64 w.rep, .int .i64 (w.wait + 1)] 105 1) H2) (by rw [hset_same]; rfl) (fun i _ hi => hset_ne hi _ _)
  generalize hH3 : hset q _ H2 = H3 at *
  have hfr3 : ∀ i, i ≠ q → H3 i = H2 i := fun i hi => by rw [← hH3, hset_ne hi]
  clear hH3
  have hq3 : H3 q = .cells [.int .i64 w.boot, .int .i64 w.inv, .string w.data, .bool w.known, .int .i64 w.rep, .int .i64 (w.wait + 1)] 105 1 := g3'.pen ({ w with wait := w.wait + 1 }, q) (by simp)
  have hS3 : H3 S = .cells [.int .i64 c.pat, .int .i64 c.ret, .int .i64 c.boot, .int .i64 c.sent, v', u'] 102 1 := by rw [hfr3 S (Ne.symm hqS)]; exact hS2'
  have g5' : OwR ⟨Try.prog, w0⟩ H3 n2 G 35 3 Ask.cells x (tkA c (c.opn.take j)) := g5.frame (Nat.le_refl _) (fun i hi => hfr3 i (by rintro rfl; exact hqG hi))
  refine AW.draw (X := ⟨_, 76, _, _⟩) (id := 9) mixed (.take 0 <| .take 1 <| .take 2 <| .take 3 <| .take 4 <| .take 5 <| .take 6 <| .take 7 <| .take 8 <| .take 9 <| .done) (by kernel_rfl) ?_
  simp (disch := omega) [-hset_if, -Bool.decide_and, hset_ne, hq3, hS3]
  refine cif_bne (fun c1 => ?_) (fun c1 => ?_)
  rotate_left
  · have et : tk1 c.pat c.ret w = (some { w with wait := w.wait + 1 }, none, none) := by unfold tk1; rw [if_pos c1]
    rw [et] at t1 t2 t3
    simp only [Option.toList_some, Option.toList_none, List.append_nil] at t1 t2 t3
    simp (disch := omega) [-hset_if, -Bool.decide_and, hset_ne]
    refine Next.mk ⟨j + 1, A ++ [({ w with wait := w.wait + 1 }, q)], x, G, D', v', u', E', F'⟩ (by first | omega | (dsimp only; omega)) (by simp (disch := omega) [-hset_if, -Bool.decide_and, hset_ne]) (nextI _ _ _ _ _ _ _ _ _ _ (Nat.le_refl _) ?_ ?_ ?_ (fun i hi hD _ => hfr3 i (fun y => hD (y ▸ hDq))) (fun i h => .inl h) (fun i h => .inl h) (fun i hi => (g9 i hi).2.1))
    · have := g3'
      simp only [tkC, hdrop] at this
      rw [t3]
      simpa using this
    · rw [t1, List.map_append, g4]; rfl
    · rw [t2]; exact g5'
  simp (disch := omega) [-hset_if, -Bool.decide_and, hset_ne]
  refine AW.draw (X := ⟨_, 76, _, _⟩) (id := 10) mixed (.take 0 <| .take 1 <| .take 2 <| .take 3 <| .take 4 <| .take 5 <| .take 6 <| .take 7 <| .take 8 <| .take 9 <| .done) (by kernel_rfl) ?_
  simp (disch := omega) [-hset_if, -Bool.decide_and, hset_ne, hq3, hS3]
  refine cif_beq (fun c2 => ?_) (fun c2 => ?_)
  · have et : tk1 c.pat c.ret w = (none, none, some ⟨w.boot, w.inv, 17, ⟨#[]⟩⟩) := by unfold tk1; rw [if_neg (by omega), if_pos c2]
    rw [et] at t1 t2 t3
    simp only [Option.toList_some, Option.toList_none, List.append_nil] at t1 t2 t3
    simp (disch := omega) [-hset_if, -Bool.decide_and, hset_ne]
    refine AW.draw (X := ⟨_, 76, _, _⟩) (id := 11) mixed (.take 0 <| .take 1 <| .take 2 <| .take 3 <| .take 4 <| .take 5 <| .take 6 <| .take 7 <| .take 8 <| .take 9 <| .take 10 <| .take 11 <| .take 12 <| .each 13 [] (.done) <| .stop) (by kernel_rfl) ?_
    simp (disch := omega) [-hset_if, -Bool.decide_and, hset_ne, hq3, hS3]
    have hPl : P.length = c.opn.length := by rw [h.opn]; simp
    have hAl : A.length ≤ c.opn.length := by
      have := congrArg List.length g4
      rw [List.length_map] at this
      rw [this]; exact fm_len _ _ _
    have hP2l : P2.length ≤ c.opn.length := by
      have := congrArg List.length hdrop
      simp at this
      omega
    have hdl : (tkD c (c.opn.take j)).length ≤ c.opn.length := fm_len _ _ _
    refine finish_ok (a := ⟨w.boot, w.inv, 17, ⟨#[]⟩⟩) g3' (by simp; omega) (by simp [tkC]; omega) ?_
    intro n4 H4 D4 v4 u4 E4 F4 d1 d2 d3 d4
    simp (disch := omega) [-hset_if, -Bool.decide_and, hset_ne]
    refine Next.mk ⟨j + 1, A, x, G, D4, v4, u4, E4, F4⟩ (by first | omega | (dsimp only; omega)) (by simp (disch := omega) [-hset_if, -Bool.decide_and, hset_ne]) (nextI n4 H4 A x G D4 v4 u4 E4 F4 d1 ?_ ?_ ?_ (fun i hi hD hG => ?_) d3 (fun i h => .inl h) (fun i hi y => ?_))
    · rw [t3]
      simpa [endC, tkC] using d4
    · rw [t1, g4]
    · rw [t2]
      exact g5'.frame d1 (fun i hi => d2 i (hGn2 i hi) (g9 i hi).2.1)
    · rw [d2 i hi hD, hfr3 i (fun y => hD (y ▸ hDq))]
    · rcases d3 i y with k | k
      · exact (g9 i hi).2.1 k
      · have := hGn2 i hi; omega
  · have et : tk1 c.pat c.ret w = (some { w with rep := w.rep + 1, wait := 0 }, some w.ask, none) := by unfold tk1; rw [if_neg (by omega), if_neg c2]
    rw [et] at t1 t2 t3
    simp only [Option.toList_some, Option.toList_none, List.append_nil] at t1 t2 t3
    simp (disch := omega) [-hset_if, -Bool.decide_and, hset_ne, hq3]
    have g3'' := g3'.setP (w' := { w with rep := w.rep + 1, wait := 0 }) rfl (Nat.le_refl _) (H' := hset q (.cells [.int .i64 w.boot, .int .i64 w.inv, .string w.data, .bool w.known, .int .i64 (w.rep + 1), .int .i64 0] 105 1) H3) (by rw [hset_same]; rfl) (fun i _ hi => hset_ne hi _ _)
    generalize hH4 : hset q _ H3 = H4 at *
    have hfr4 : ∀ i, i ≠ q → H4 i = H2 i := fun i hi => by rw [← hH4, hset_ne hi, hfr3 i hi]
    clear hH4
    have g5'' : OwR ⟨Try.prog, w0⟩ H4 n2 G 35 3 Ask.cells x (tkA c (c.opn.take j)) := g5.frame (Nat.le_refl _) (fun i hi => hfr4 i (by rintro rfl; exact hqG hi))
    have hal : (tkA c (c.opn.take j)).length ≤ c.opn.length := fm_len _ _ _
    refine g5''.push elemS60 zero35 (by simp) w.ask rfl rfl rfl (by omega) (by omega) ?_
    intro x5 n5 H5 G5 q1 q2 q3 q4 q5
    simp (disch := omega) [-hset_if, -Bool.decide_and, hset_ne]
    refine Next.mk ⟨j + 1, A ++ [({ w with rep := w.rep + 1, wait := 0 }, q)], x5, G5, D', v', u', E', F'⟩ (by first | omega | (dsimp only; omega)) (by simp (disch := omega) [-hset_if, -Bool.decide_and, hset_ne]) (nextI n5 H5 _ x5 G5 D' v' u' E' F' (by omega) ?_ ?_ ?_ (fun i hi hD hG => ?_) (fun i h => .inl h) (fun i hi => ?_) (fun i hi y => ?_))
    · have := g3''.frame (n' := n5) (H' := H5) (by omega) (fun i hi => q3 i (hDn2 i hi) (fun y => (g9 i y).2.1 hi))
      simp only [tkC, hdrop] at this
      rw [t3]
      simpa using this
    · rw [t1, List.map_append, g4]; rfl
    · rw [t2]; exact q5
    · rw [q3 i hi hG, hfr4 i (fun y => hD (y ▸ hDq))]
    · rcases q4 i hi with k | k
      · exact .inl k
      · exact .inr (by omega)
    · rcases q4 i hi with k | k
      · exact (g9 i k).2.1 y
      · have := hDn2 i y; omega
end Go.Aw.S50
