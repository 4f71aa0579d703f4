/-
  Chapter 50: the reference's client.
-/
import Derived.Test.YtfeclhjbkphjdaaS50n
namespace Go.Aw.S50
open Go.RowKit Go.Proofs Go.Aw.Tab
set_option linter.unusedSimpArgs false
set_option linter.unusedVariables false
set_option maxRecDepth 10000
set_option maxHeartbeats 2000000
set_option pp.deepTerms false
set_option pp.deepTerms.threshold 4
set_option pp.maxSteps 1500
variable {w0 : World} {n : Nat} {H : Heap} {K : Value → Nat → Heap → Prop}
attribute [local simp] Ans.cells Ask.cells Opn.cells Wt.cells Qt.cells intC
/-- The reference's comparison of two lists that are the same. -/
theorem sameAsk_ok {a b : Value} {D1 D2 : Nat → Prop} {xs : List Ask} (hs : SlR ⟨Try.prog, w0⟩ H D1 3 Ask.cells a xs) (ht : SlR ⟨Try.prog, w0⟩ H D2 3 Ask.cells b xs) (hb : xs.length < 9223372036854775807) (hr : Res n H K (.bool true)) : ACall ⟨Try.prog, w0⟩ 22 [a, b] K n H := by
  refine ACall.run Try.func22 rfl Try.ntmps22 Try.results22 (by simp) fun J0 => ?_
  simp (disch := omega) [-hset_if, -Bool.decide_and, hset_ne, hs.lenK, ht.lenK]
  refine AW.while (σ := Nat) (fun j => xs.length - j) (fun j => [(0, a), (1, b), (5, .int .i64 (j : Int))]) (fun j n1 H1 => n = n1 ∧ H = H1 ∧ j ≤ xs.length) 0 ?_ ?_ ?_
  · simp (disch := omega) [-hset_if, -Bool.decide_and, hset_ne]
  · exact ⟨rfl, rfl, by omega⟩
  rintro j _ _ ⟨rfl, rfl, g1⟩
  simp (disch := omega) [-hset_if, -Bool.decide_and, hset_ne, hs.lenK]
  refine cif_dec (fun h => ?_) (fun h => ?_)
  · simp (disch := omega) [-hset_if, -Bool.decide_and, hset_ne]
    refine AW.draw (X := ⟨_, 26, _, _⟩) (id := 6) mixed (.take 0 <| .take 1 <| .take 2 <| .take 3 <| .take 4 <| .take 5 <| .take 6 <| .take 7 <| .take 8 <| .done) (by kernel_rfl) ?_
    simp (disch := omega) [-hset_if, -Bool.decide_and, hset_ne, hs.ix elemS60, ht.ix elemS60, hs.load0 shp35, ht.load0 shp35]
    exact Next.mk (j + 1) (by first | omega | (dsimp only; omega)) (by simp (disch := omega) [-hset_if, -Bool.decide_and, hset_ne]) ⟨rfl, rfl, by omega⟩
  · simp (disch := omega) [-hset_if, -Bool.decide_and, hset_ne]
    exact hr.fin rfl (by omega) (fun i hi => by simp (disch := omega) only [hset_ne])
/-- The reference's comparison of two lists that are the same. -/
theorem sameAns_ok {a b : Value} {D1 D2 : Nat → Prop} {xs : List Ans} (hs : SlR ⟨Try.prog, w0⟩ H D1 4 Ans.cells a xs) (ht : SlR ⟨Try.prog, w0⟩ H D2 4 Ans.cells b xs) (hb : xs.length < 9223372036854775807) (hr : Res n H K (.bool true)) : ACall ⟨Try.prog, w0⟩ 30 [a, b] K n H := by
  refine ACall.run Try.func30 rfl Try.ntmps30 Try.results30 (by simp) fun J0 => ?_
  simp (disch := omega) [-hset_if, -Bool.decide_and, hset_ne, hs.lenK, ht.lenK]
  refine AW.while (σ := Nat) (fun j => xs.length - j) (fun j => [(0, a), (1, b), (5, .int .i64 (j : Int))]) (fun j n1 H1 => n = n1 ∧ H = H1 ∧ j ≤ xs.length) 0 ?_ ?_ ?_
  · simp (disch := omega) [-hset_if, -Bool.decide_and, hset_ne]
  · exact ⟨rfl, rfl, by omega⟩
  rintro j _ _ ⟨rfl, rfl, g1⟩
  simp (disch := omega) [-hset_if, -Bool.decide_and, hset_ne, hs.lenK]
  refine cif_dec (fun h => ?_) (fun h => ?_)
  · simp (disch := omega) [-hset_if, -Bool.decide_and, hset_ne]
    refine AW.draw (X := ⟨_, 26, _, _⟩) (id := 6) mixed (.take 0 <| .take 1 <| .take 2 <| .take 3 <| .take 4 <| .take 5 <| .take 6 <| .take 7 <| .take 8 <| .done) (by kernel_rfl) ?_
    simp (disch := omega) [-hset_if, -Bool.decide_and, hset_ne, hs.ix elemS67, ht.ix elemS67, hs.load0 shp33, ht.load0 shp33]
    exact Next.mk (j + 1) (by first | omega | (dsimp only; omega)) (by simp (disch := omega) [-hset_if, -Bool.decide_and, hset_ne]) ⟨rfl, rfl, by omega⟩
  · simp (disch := omega) [-hset_if, -Bool.decide_and, hset_ne]
    exact hr.fin rfl (by omega) (fun i hi => by simp (disch := omega) only [hset_ne])
/-- The reference's comparison of two lists that are the same. -/
theorem sameInt_ok {a b : Value} {D1 D2 : Nat → Prop} {xs : List Int} (hs : SlR ⟨Try.prog, w0⟩ H D1 1 intC a xs) (ht : SlR ⟨Try.prog, w0⟩ H D2 1 intC b xs) (hb : xs.length < 9223372036854775807) (hr : Res n H K (.bool true)) : ACall ⟨Try.prog, w0⟩ 27 [a, b] K n H := by
  refine ACall.run Try.func27 rfl Try.ntmps27 Try.results27 (by simp) fun J0 => ?_
  simp (disch := omega) [-hset_if, -Bool.decide_and, hset_ne, hs.lenK, ht.lenK]
  refine AW.while (σ := Nat) (fun j => xs.length - j) (fun j => [(0, a), (1, b), (5, .int .i64 (j : Int))]) (fun j n1 H1 => n = n1 ∧ H = H1 ∧ j ≤ xs.length) 0 ?_ ?_ ?_
  · simp (disch := omega) [-hset_if, -Bool.decide_and, hset_ne]
  · exact ⟨rfl, rfl, by omega⟩
  rintro j _ _ ⟨rfl, rfl, g1⟩
  simp (disch := omega) [-hset_if, -Bool.decide_and, hset_ne, hs.lenK]
  refine cif_dec (fun h => ?_) (fun h => ?_)
  · simp (disch := omega) [-hset_if, -Bool.decide_and, hset_ne]
    refine AW.draw (X := ⟨_, 26, _, _⟩) (id := 6) mixed (.take 0 <| .take 1 <| .take 2 <| .take 3 <| .take 4 <| .take 5 <| .take 6 <| .take 7 <| .take 8 <| .done) (by kernel_rfl) ?_
    simp (disch := omega) [-hset_if, -Bool.decide_and, hset_ne, hs.ix elemS64, ht.ix elemS64, hs.load0 shp3, ht.load0 shp3]
    exact Next.mk (j + 1) (by first | omega | (dsimp only; omega)) (by simp (disch := omega) [-hset_if, -Bool.decide_and, hset_ne]) ⟨rfl, rfl, by omega⟩
  · simp (disch := omega) [-hset_if, -Bool.decide_and, hset_ne]
    exact hr.fin rfl (by omega) (fun i hi => by simp (disch := omega) only [hset_ne])
structure RclR (H : Heap) (w0 : World) (n T : Nat) (D : Nat → Prop) (c : Cl) (v u : Value) (E F : Nat → Prop) : Prop where
  self : H T = .cells [.int .i64 c.pat, .int .i64 c.ret, .int .i64 c.boot, .int .i64 (c.sent + 1), v, u] 71 1
  op : OwR ⟨Try.prog, w0⟩ H n E 107 6 Wt.cells v c.opn
  dn : OwR ⟨Try.prog, w0⟩ H n F 33 4 Ans.cells u c.done
  d : ∀ i, D i ↔ i = T ∨ E i ∨ F i
  s : ¬ E T ∧ ¬ F T ∧ T < n
  ef : ∀ i, E i → ¬ F i
theorem RclR.lt {T : Nat} {D E F : Nat → Prop} {c : Cl} {v u : Value} (h : RclR H w0 n T D c v u E F) {i : Nat} (hi : D i) : i < n := by
  rcases (h.d i).1 hi with rfl | hi | hi
  · exact h.s.2.2
  · exact h.op.lt i hi
  · exact h.dn.lt i hi
theorem RclR.frame {T : Nat} {D E F : Nat → Prop} {c : Cl} {v u : Value} (h : RclR H w0 n T D c v u E F) {n' : Nat} {H' : Heap} (h1 : n ≤ n') (h2 : ∀ i, D i → H' i = H i) : RclR H' w0 n' T D c v u E F :=
  ⟨by rw [h2 T ((h.d T).2 (.inl rfl))]; exact h.self, h.op.frame h1 (fun i hi => h2 i ((h.d i).2 (.inr (.inl hi)))), h.dn.frame h1 (fun i hi => h2 i ((h.d i).2 (.inr (.inr hi)))), h.d, ⟨h.s.1, h.s.2.1, by have := h.s.2.2; omega⟩, h.ef⟩
theorem RNewClient_ok {b m : Int} (h1 : ¬ ncOk b m → ∀ n' H', n ≤ n' → (∀ i, i < n → H' i = H i) → K (.tuple #[.pointer none, .int .i64 6]) n' H')
    (h2 : ncOk b m → ∀ n' H' T, n ≤ n' → (∀ i, i < n → H' i = H i) → n ≤ T → RclR H' w0 n' T (· = T) ⟨b, m, 0, 0, [], []⟩ (.slice none 0 0) (.slice none 0 0) (fun _ => False) (fun _ => False) → K (.tuple #[.pointer (some ⟨new T, 0, none⟩), .int .i64 0]) n' H') : ACall ⟨Try.prog, w0⟩ 19 [.int .i64 b, .int .i64 m] K n H := by
  refine ACall.run Try.func19 rfl Try.ntmps19 Try.results19 (by simp) fun J0 => ?_
  simp (disch := omega) [-hset_if, -Bool.decide_and, hset_ne]
  refine in_ok ?_
  simp (disch := omega) [-hset_if, -Bool.decide_and, hset_ne]
  refine gif_ndec (fun a1 => ?_) (fun a1 => ?_)
  · simp (disch := omega) [-hset_if, -Bool.decide_and, hset_ne]
    refine Fin_id ?_
    exact h1 (by unfold ncOk; omega) _ _ (Nat.le_refl _) (fun _ _ => rfl)
  · simp (disch := omega) [-hset_if, -Bool.decide_and, hset_ne]
    refine in_ok ?_
    simp (disch := omega) [-hset_if, -Bool.decide_and, hset_ne]
    refine cif_dec (fun a2 => ?_) (fun a2 => ?_)
    rotate_left
    · simp (disch := omega) [-hset_if, -Bool.decide_and, hset_ne]
      refine Fin_id ?_
      exact h1 (by unfold ncOk; omega) _ _ (Nat.le_refl _) (fun _ _ => rfl)
    · simp (disch := omega) [-hset_if, -Bool.decide_and, hset_ne]
      refine Fin_id ?_
      exact h2 (by unfold ncOk; omega) _ _ n (by omega) (fun i hi => by simp (disch := omega) only [hset_ne]) (by omega) ⟨by rw [hset_same]; rfl, OwR.nil (by omega), OwR.nil (by omega), fun i => by simp, ⟨id, id, by omega⟩, fun _ h _ => h⟩
theorem RSend_ok {T : Nat} {D E F : Nat → Prop} {c : Cl} {v u : Value} {data : ByteArray} (h : RclR H w0 n T D c v u E F) (hd : 0 ≤ c.sent ∧ c.sent < 1000) (hl : c.opn.length ≤ 16)
    (hk : ∀ n' H' D' v' u' E' F', n ≤ n' → (∀ i, i < n → ¬ D i → H' i = H i) → (∀ i, D' i → D i ∨ n ≤ i) → RclR H' w0 n' T D' (sendP c data).2 v' u' E' F' → K (skV (sendP c data).1) n' H') :
    ACall ⟨Try.prog, w0⟩ 21 [.pointer (some ⟨new T, 0, none⟩), .string data] K n H := by
  have hself := h.self
  obtain ⟨s1, s2, s3⟩ := h.s
  have hEn := h.op.lt
  have hFn := h.dn.lt
  have hDS := (h.d T).2 (.inl rfl)
  have hop := h.op.sl
  unfold sendP at hk
  refine ACall.run Try.func21 rfl Try.ntmps21 Try.results21 (by simp) fun J0 => ?_
  simp (disch := omega) [-hset_if, -Bool.decide_and, hset_ne, hself, hop.lenK]
  refine cif_dec (fun b1 => ?_) (fun b1 => ?_)
  · rw [if_pos (by omega)] at hk
    simp (disch := omega) [-hset_if, -Bool.decide_and, hset_ne]
    refine Fin_id ?_
    exact hk _ _ D v u E F (by omega) (fun i hi _ => by simp (disch := omega) only [hset_ne]) (fun i h => .inl h) (h.frame (by omega) (fun i hi => by have := h.lt hi; simp (disch := omega) only [hset_ne]))
  rw [if_neg (by omega)] at hk
  simp (disch := omega) [-hset_if, -Bool.decide_and, hset_ne, hself, hop.lenK]
  refine cif_beq (fun b2 => ?_) (fun b2 => ?_)
  · rw [if_pos (by omega)] at hk
    simp (disch := omega) [-hset_if, -Bool.decide_and, hset_ne]
    refine Fin_id ?_
    exact hk _ _ D v u E F (by omega) (fun i hi _ => by simp (disch := omega) only [hset_ne]) (fun i h => .inl h) (h.frame (by omega) (fun i hi => by have := h.lt hi; simp (disch := omega) only [hset_ne]))
  rw [if_neg (by omega)] at hk
  simp (disch := omega) [-hset_if, -Bool.decide_and, hset_ne, hself]
  refine AW.draw (X := ⟨_, 52, _, _⟩) (id := 5) mixed (.take 0 <| .take 1 <| .take 2 <| .take 3 <| .take 4 <| .take 5 <| .take 6 <| .take 7 <| .take 8 <| .take 9 <| .each 10 [0, 1, 2, 3, 4, 5, 6, 7, 8, 9] (.each 11 [] (.done) <| .stop) <| .stop) (by kernel_rfl) ?_
  simp (disch := omega) [-hset_if, -Bool.decide_and, hset_ne, hself]
  refine AW.draw (X := ⟨_, 52, _, _⟩) (id := 7) mixed (.take 0 <| .take 1 <| .take 2 <| .take 3 <| .take 4 <| .take 5 <| .take 6 <| .take 7 <| .take 8 <| .take 9 <| .take 10 <| .take 11 <| .each 12 [0, 1, 2, 3, 4] (.each 13 [0] (.take 14 <| .take 15 <| .each 16 [] (.done) <| .stop) <| .stop) <| .stop) (by kernel_rfl) ?_
  simp (disch := omega) [-hset_if, -Bool.decide_and, hset_ne, hself]
  generalize hH0 : hset T _ (hset (n + 1) _ (hset n _ H)) = H0
  have hR0 : H0 n = .cells [.int .i64 0, .int .i64 0, .string ⟨#[]⟩] 35 1 := by rw [← hH0, hset_ne (by omega), hset_ne (by omega), hset_same]
  have hA0 : H0 (n + 1) = .cells (newW c data).ask.cells 35 1 := by rw [← hH0, hset_ne (by omega), hset_same]; rfl
  have hT0 : H0 T = .cells [.int .i64 c.pat, .int .i64 c.ret, .int .i64 c.boot, .int .i64 (c.sent + 1 + 1), v, u] 71 1 := by rw [← hH0, hset_same]
  have hfr0 : ∀ i, i < n → i ≠ T → H0 i = H i := fun i hi hS => by rw [← hH0]; simp (disch := omega) only [hset_ne]
  clear hH0
  have ho0 := h.op.frame (n := n) (m := n + 2) (H' := H0) (by omega) (fun i hi => hfr0 i (hEn i hi) (fun y => s1 (y ▸ hi)))
  refine ho0.push elemS69 zero107 (by simp) (newW c data) rfl rfl rfl (by omega) (by omega) ?_
  intro v1 n1 H1 E1 q1 q2 q3 q4 q5
  have hEno : ∀ i, n ≤ i → ¬ E i := fun i hi y => by have := hEn i y; omega
  have hT1 := q3 T (by omega) s1
  rw [hT0] at hT1
  have hR1 := q3 n (by omega) (hEno n (by omega))
  rw [hR0] at hR1
  have hA1 := q3 (n + 1) (by omega) (hEno _ (by omega))
  rw [hA0] at hA1
  have hA1' : H1 (n + 1) = .cells [.int .i64 c.boot, .int .i64 (c.sent + 1), .string data] 35 1 := hA1
  have hE1 : ∀ i, E1 i → (E i ∨ n + 2 < i) ∧ i ≠ T ∧ ¬ F i ∧ i ≠ n := fun i hi => by
    rcases q4 i hi with z | z
    · have := hEn i z
      exact ⟨.inl z, fun y => s1 (y ▸ z), h.ef i z, by omega⟩
    · exact ⟨.inr z, by omega, fun y => by have := hFn i y; omega, by omega⟩
  simp (disch := omega) [-hset_if, -Bool.decide_and, hset_ne, hT1, q5.sl.cells, q5.sl.one, hA1', hR1]
  refine Fin_id ?_
  have hfr : ∀ i, i < n → i ≠ T → ¬ E i → ∀ o o', hset n o (hset T o' H1) i = H i := fun i hi e1 e2 o o' => by rw [hset_ne (by omega), hset_ne e1, q3 i (by omega) e2, hfr0 i hi e1]
  refine hk _ _ (fun i => i = T ∨ E1 i ∨ F i) v1 u E1 F (by omega) (fun i hi hD => ?_) (fun i hi => ?_) ⟨?_, ?_, ?_, fun i => Iff.rfl, ⟨fun y => (hE1 T y).2.1 rfl, s2, by omega⟩, fun i hi => (hE1 i hi).2.2.1⟩
  · exact hfr i hi (fun y => hD (y ▸ hDS)) (fun y => hD ((h.d i).2 (.inr (.inl y)))) _ _
  · rcases hi with rfl | hi | hi
    · exact .inl hDS
    · rcases (hE1 i hi).1 with z | z
      · exact .inl ((h.d i).2 (.inr (.inl z)))
      · exact .inr (by omega)
    · exact .inl ((h.d i).2 (.inr (.inr hi)))
  · rw [hset_ne (by omega), hset_same]
  · refine q5.frame (Nat.le_refl _) (fun i hi => ?_)
    have := hE1 i hi
    rw [hset_ne (by omega), hset_ne (by omega)]
  · refine h.dn.frame (by omega) (fun i hi => ?_)
    have := hFn i hi
    exact hfr i this (fun y => s2 (y ▸ hi)) (fun y => h.ef i y hi) _ _
theorem Numbers_ok {T : Nat} {D E F : Nat → Prop} {c : Cl} {v u : Value} (h : RclR H w0 n T D c v u E F) (hl : c.opn.length ≤ 1000)
    (hk : ∀ n' H' x G, n ≤ n' → (∀ i, i < n → H' i = H i) → OwR ⟨Try.prog, w0⟩ H' n' G 3 1 intC x (invs c.opn) → (∀ i, G i → n ≤ i) → K x n' H') : ACall ⟨Try.prog, w0⟩ 29 [.pointer (some ⟨new T, 0, none⟩)] K n H := by
  have hself := h.self
  have hlt : T < n := h.s.2.2
  refine ACall.run Try.func29 rfl Try.ntmps29 Try.results29 (by simp) fun J0 => ?_
  simp (disch := omega) [-hset_if, -Bool.decide_and, hset_ne]
  have h0 := h.frame (n' := n + 1) (H' := hset n (.cells [] 3 1) H) (by omega) (fun i hi => hset_ne (by have := h.lt hi; omega) _ _)
  refine AW.while (σ := Nat × Value × (Nat → Prop)) (fun s => c.opn.length - s.1) (fun s => [(0, .pointer (some ⟨new T, 0, none⟩)), (3, s.2.1), (4, .int .i64 (s.1 : Int))])
    (fun s n1 H1 => s.1 ≤ c.opn.length ∧ n ≤ n1 ∧ (∀ i, i < n → H1 i = H i) ∧ OwR ⟨Try.prog, w0⟩ H1 n1 s.2.2 3 1 intC s.2.1 (invs (c.opn.take s.1)) ∧ ∀ i, s.2.2 i → n ≤ i) (0, .slice (some ⟨new n, 0, none⟩) 0 0, (· = n)) ?_ ?_ ?_
  · simp (disch := omega) [-hset_if, -Bool.decide_and, hset_ne]
  · exact ⟨by omega, by omega, fun i hi => hset_ne (by omega) _ _, OwR.empty (by omega) (by omega) (hset_same _ _ _), fun i hi => by dsimp only at hi; omega⟩
  rintro ⟨j, x, G⟩ n1 H1 ⟨g1, g2, g3, g4, g5⟩
  dsimp only at g1 g4 g5 ⊢
  have h1 := h.frame g2 (fun i hi => g3 i (h.lt hi))
  have hT1 := h1.self
  simp (disch := omega) [-hset_if, -Bool.decide_and, hset_ne, hT1, h1.op.sl.lenK]
  refine cif_dec (fun b1 => ?_) (fun b1 => ?_)
  · simp (disch := omega) [-hset_if, -Bool.decide_and, hset_ne, hT1, h1.op.sl.ix elemS69, h1.op.sl.load shp3, Addr.add_add]
    refine g4.push elemS64 zero3 (by simp) (at_ c.opn (j : Int)).inv rfl rfl rfl (by simp [invs]; omega) (by simp [invs]; omega) ?_
    intro x2 n2 H2 G2 q1 q2 q3 q4 q5
    simp (disch := omega) [-hset_if, -Bool.decide_and, hset_ne]
    refine Next.mk (j + 1, x2, G2) (by first | omega | (dsimp only; omega)) (by simp (disch := omega) [-hset_if, -Bool.decide_and, hset_ne]) ⟨by dsimp only; omega, by omega, fun i hi => ?_, ?_, fun i hi => ?_⟩
    · rw [q3 i (by omega) (fun y => by have := g5 i y; omega), g3 i hi]
    · dsimp only
      have : invs (c.opn.take (j + 1)) = invs (c.opn.take j) ++ [(at_ c.opn (j : Int)).inv] := by rw [take_next (by omega)]; simp [invs]
      rw [this]; exact q5
    · rcases q4 i hi with z | z
      · exact g5 i z
      · omega
  · simp (disch := omega) [-hset_if, -Bool.decide_and, hset_ne]
    refine Fin_id ?_
    rw [List.take_of_length_le (by omega)] at g4
    exact hk _ _ _ _ g2 g3 g4 g5
theorem end_ok {T j : Nat} {D E F : Nat → Prop} {c : Cl} {v u : Value} {a : Ans} (h : RclR H w0 n T D c v u E F) (hj : j < c.opn.length) (hl : c.opn.length ≤ 1000) (hl2 : c.done.length < 1000)
    (hk : ∀ n' H' D' v' u' E' F', n ≤ n' → (∀ i, i < n → ¬ D i → H' i = H i) → (∀ i, D' i → D i ∨ n ≤ i) → RclR H' w0 n' T D' (endC c (c.opn.take j ++ c.opn.drop (j + 1)) a) v' u' E' F' → K (.tuple #[]) n' H') :
    ACall ⟨Try.prog, w0⟩ 41 [.pointer (some ⟨new T, 0, none⟩), .int .i64 (j : Int), .agg a.cells.toArray] K n H := by
  have hself := h.self
  obtain ⟨s1, s2, s3⟩ := h.s
  have hEn := h.op.lt
  have hFn := h.dn.lt
  have hDS := (h.d T).2 (.inl rfl)
  refine ACall.run Try.func41 rfl Try.ntmps41 Try.results41 (by simp) fun J0 => ?_
  simp (disch := omega) [-hset_if, -Bool.decide_and, hset_ne]
  have h0 := h.frame (n' := n + 1) (H' := hset n (.cells [.int .i64 a.boot, .int .i64 a.inv, .int .i64 a.code, .string a.data] 33 1) H) (by omega) (fun i hi => hset_ne (by have := h.lt hi; omega) _ _)
  generalize hH0 : hset n _ H = H0 at *
  have hA0 : H0 n = .cells [.int .i64 a.boot, .int .i64 a.inv, .int .i64 a.code, .string a.data] 33 1 := by rw [← hH0, hset_same]
  have hfr0 : ∀ i, i < n → H0 i = H i := fun i hi => by rw [← hH0, hset_ne (by omega)]
  clear hH0
  have hT0 := h0.self
  refine AW.draw (X := ⟨_, 35, _, _⟩) (id := 1) mixed (.take 0 <| .take 2 <| .take 3 <| .take 4 <| .take 5 <| .take 6 <| .take 7 <| .take 9 <| .take 10 <| .take 11 <| .take 12 <| .take 13 <| .take 14 <| .take 15 <| .each 1 [0, 2, 3, 4, 5, 6, 7, 9, 10, 11, 12, 13, 14, 15] (.each 8 [0, 9, 10, 11, 12, 13, 14, 15] (.each 16 [0] (.take 17 <| .take 18 <| .each 19 [] (.done) <| .stop) <| .stop) <| .stop) <| .stop) (by kernel_rfl) ?_
  simp (disch := omega) [-hset_if, -Bool.decide_and, hset_ne, hT0]
  refine h0.op.sl.head tk69 elemS69 (j := j) (by omega) ?_
  intro w1 hw1
  simp (disch := omega) [-hset_if, -Bool.decide_and, hset_ne, hT0]
  have cast1 : ((j : Int) + 1) = ((j + 1 : Nat) : Int) := by omega
  rw [cast1]
  refine h0.op.sl.tail tk69 elemS69 (j := j + 1) (by omega) ?_
  intro w2 hw2
  simp (disch := omega) [-hset_if, -Bool.decide_and, hset_ne, hT0]
  have hE0 : ∀ i, E i → i < n + 1 := fun i hi => by have := hEn i hi; omega
  have hw1' : SlR ⟨Try.prog, w0⟩ (hset (n + 1) (.cells [] 107 6) H0) E 6 Wt.cells w1 (c.opn.take j) := hw1.frame (fun i hi => hset_ne (by have := hE0 i hi; omega) _ _)
  refine (OwR.empty (C := ⟨Try.prog, w0⟩) (f := Wt.cells) (T := 107) (sz := 6) (n := n + 1 + 1) (j := n + 1) (H := hset (n + 1) (.cells [] 107 6) H0) (by omega) (by omega) (hset_same _ _ _)).appendS elemS69 zero107 rfl hw1' (fun _ _ => rfl) (by simp; omega) (by simp; omega) ?_
  intro v5 n5 H5 E5 y1 y2 y3 y4 y5
  have hfr5 : ∀ i, i < n + 1 → H5 i = H0 i := fun i hi => by rw [y3 i (by omega) (by omega), hset_ne (by omega)]
  have hT5 := hfr5 T (by omega)
  rw [hT0] at hT5
  have hw2' : SlR ⟨Try.prog, w0⟩ H5 E 6 Wt.cells w2 (c.opn.drop (j + 1)) := hw2.frame (fun i hi => hfr5 i (hE0 i hi))
  simp (disch := omega) [-hset_if, -Bool.decide_and, hset_ne, hT5]
  refine y5.appendS elemS69 zero107 rfl hw2' (fun _ _ => rfl) (by simp; omega) (by simp; omega) ?_
  intro v6 n6 H6 E6 z1 z2 z3 z4 z5
  have hE5 : ∀ i, E5 i → n + 1 ≤ i := fun i hi => by rcases y4 i hi with v | v <;> omega
  have hE6 : ∀ i, E6 i → n + 1 ≤ i := fun i hi => by rcases z4 i hi with v | v; exact hE5 i v; omega
  have hfr6 : ∀ i, i < n + 1 → H6 i = H0 i := fun i hi => by rw [z3 i (by omega) (fun y => by have := hE5 i y; omega)]; exact hfr5 i hi
  have hT6 := hfr6 T (by omega)
  rw [hT0] at hT6
  have hA6 := hfr6 n (by omega)
  rw [hA0] at hA6
  have hd6 := h0.dn.frame (n := n + 1) (m := n6) (H' := H6) (by omega) (fun i hi => hfr6 i (by have := hFn i hi; omega))
  simp (disch := omega) [-hset_if, -Bool.decide_and, hset_ne, hT6, z5.sl.cells, z5.sl.one]
  generalize hH7 : hset T _ H6 = H7
  have hT7 : H7 T = .cells [.int .i64 c.pat, .int .i64 c.ret, .int .i64 c.boot, .int .i64 (c.sent + 1), v6, u] 71 1 := by rw [← hH7, hset_same]
  have hfr7 : ∀ i, i ≠ T → H7 i = H6 i := fun i hi => by rw [← hH7, hset_ne hi]
  clear hH7
  have hA7 : H7 n = .cells [.int .i64 a.boot, .int .i64 a.inv, .int .i64 a.code, .string a.data] 33 1 := by rw [hfr7 n (by omega)]; exact hA6
  have ho7 := z5.frame (Nat.le_refl _) (fun i hi => hfr7 i (by have := hE6 i hi; omega))
  have hd7 := hd6.frame (Nat.le_refl _) (fun i hi => hfr7 i (by rintro rfl; exact s2 hi))
  refine AW.draw (X := ⟨_, 35, _, _⟩) (id := 2) mixed (.take 0 <| .take 1 <| .take 2 <| .take 3 <| .take 4 <| .take 5 <| .each 6 [0, 1, 2, 3, 4] (.each 7 [0] (.take 8 <| .take 9 <| .each 10 [] (.done) <| .stop) <| .stop) <| .stop) (by kernel_rfl) ?_
  simp (disch := omega) [-hset_if, -Bool.decide_and, hset_ne, hT7, hA7]
  refine hd7.push elemS67 zero33 (by simp) a rfl rfl rfl (by omega) (by omega) ?_
  intro u8 n8 H8 F8 x1 x2 x3 x4 x5
  have hT8 := x3 T (by omega) s2
  rw [hT7] at hT8
  simp (disch := omega) [-hset_if, -Bool.decide_and, hset_ne, hT8, x5.sl.cells, x5.sl.one]
  refine Fin_id ?_
  have hF8 : ∀ i, F8 i → (F i ∨ n6 < i) ∧ i ≠ T := fun i hi => by
    rcases x4 i hi with z | z
    · exact ⟨.inl z, fun y => s2 (y ▸ z)⟩
    · exact ⟨.inr z, by omega⟩
  refine hk _ _ (fun i => i = T ∨ E6 i ∨ F8 i) v6 u8 E6 F8 (by omega) (fun i hi hD => ?_) (fun i hi => ?_) ⟨?_, ?_, ?_, fun i => Iff.rfl, ⟨fun y => by have := hE6 T y; omega, fun y => (hF8 T y).2 rfl, by omega⟩, fun i hi y => ?_⟩
  · have e1 : i ≠ T := fun y => hD (y ▸ hDS)
    rw [hset_ne e1, x3 i (by omega) (fun y => hD ((h.d i).2 (.inr (.inr y)))), hfr7 i e1, hfr6 i (by omega), hfr0 i hi]
  · rcases hi with rfl | hi | hi
    · exact .inl hDS
    · have := hE6 i hi; exact .inr (by omega)
    · rcases (hF8 i hi).1 with z | z
      · exact .inl ((h.d i).2 (.inr (.inr z)))
      · exact .inr (by omega)
  · rw [hset_same]; rfl
  · refine ho7.frame (by omega) (fun i hi => ?_)
    have := hE6 i hi
    have := ho7.lt i hi
    rw [hset_ne (by omega), x3 i (by omega) (fun y => by have := hFn i y; omega)]
  · exact x5.frame (Nat.le_refl _) (fun i hi => hset_ne (hF8 i hi).2 _ _)
  · have := hE6 i hi
    have := ho7.lt i hi
    rcases (hF8 i y).1 with z | z
    · have := hFn i z; omega
    · omega
end Go.Aw.S50
