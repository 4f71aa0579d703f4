/-
  Chapter 50: the client sends and handles.
-/
import Derived.Test.YtfeclhjbkphjdaaS50j
namespace Go.Aw.S50
open Go.RowKit Go.Proofs Go.Aw.Tab
set_option linter.unusedSimpArgs false
set_option linter.unusedVariables false
set_option maxRecDepth 10000
set_option maxHeartbeats 2000000
set_option pp.deepTerms false
set_option pp.deepTerms.threshold 4
set_option pp.maxSteps 1500
variable {w0 : World} {n : Nat} {H : Heap} {K : Value → Nat → Heap → Prop}
attribute [local simp] Ans.cells Ask.cells Opn.cells Wt.cells Qt.cells
/-- The limits of a new client. -/
def ncOk (p r : Int) : Prop := 1 ≤ p ∧ p ≤ 1000 ∧ 0 ≤ r ∧ r ≤ 100
instance {b m : Int} : Decidable (ncOk b m) := by unfold ncOk; infer_instance
theorem NewClient_ok {b m : Int} (h1 : ¬ ncOk b m → ∀ n' H', n ≤ n' → (∀ i, i < n → H' i = H i) → K (.tuple #[.pointer none, .int .i64 6]) n' H')
    (h2 : ncOk b m → ∀ n' H' S, n ≤ n' → (∀ i, i < n → H' i = H i) → n ≤ S → CliR H' w0 n' S (· = S) ⟨b, m, 0, 0, [], []⟩ [] (.slice none 0 0) (.slice none 0 0) (fun _ => False) (fun _ => False) → K (.tuple #[.pointer (some ⟨new S, 0, none⟩), .int .i64 0]) n' H') : ACall ⟨Try.prog, w0⟩ 18 [.int .i64 b, .int .i64 m] K n H := by
  refine ACall.run Try.func18 rfl Try.ntmps18 Try.results18 (by simp) fun J0 => ?_
  simp (disch := omega) [-hset_if, -Bool.decide_and, hset_ne]
  repeat' (first | (with_reducible intro _; first | (exfalso; omega) | (simp (disch := omega) [-hset_if, -Bool.decide_and, hset_ne]) | skip) | (with_reducible refine And.intro ?_ ?_; omega) | with_reducible apply cif_dec | with_reducible apply cif_beq | with_reducible apply cif_bne | with_reducible apply cif_var | with_reducible apply gif_dec | with_reducible apply gif_ndec | with_reducible apply gif_beq | with_reducible apply gif_bne | with_reducible apply gif_nbeq | with_reducible apply gif_var)
  all_goals refine Fin_id ?_
  · exact h1 (by unfold ncOk; omega) _ _ (Nat.le_refl _) (fun _ _ => rfl)
  · exact h1 (by unfold ncOk; omega) _ _ (Nat.le_refl _) (fun _ _ => rfl)
  · exact h1 (by unfold ncOk; omega) _ _ (Nat.le_refl _) (fun _ _ => rfl)
  · exact h1 (by unfold ncOk; omega) _ _ (Nat.le_refl _) (fun _ _ => rfl)
  · exact h2 (by unfold ncOk; omega) _ _ n (by omega) (fun i hi => by simp (disch := omega) only [hset_ne]) (by omega) ⟨by simp (disch := omega) [-hset_if, -Bool.decide_and, hset_ne], OwR.nil (by omega), OwR.nil (by omega), by simp, rfl, by simp, fun i => by simp, ⟨id, id, by omega, by simp⟩, fun _ h _ => h⟩
/-- What a new request looks like. -/
def newW (c : Cl) (data : ByteArray) : Wt := ⟨c.boot, c.sent + 1, data, c.boot != 0, 0, 0⟩
/-- Rule 1. -/
def sendP (c : Cl) (data : ByteArray) : (Ask × Int) × Cl :=
  if 400 < data.size then ((default, 1), c)
  else if 16 ≤ c.opn.length then ((default, 16), c)
  else (((newW c data).ask, 0), { c with sent := c.sent + 1, opn := c.opn ++ [newW c data] })
def skV (r : Ask × Int) : Value := .tuple #[.agg r.1.cells.toArray, .int .i64 r.2]
theorem Send_ok {S : Nat} {D E F : Nat → Prop} {c : Cl} {P : List (Wt × Nat)} {v u : Value} {data : ByteArray} (h : CliR H w0 n S D c P v u E F) (hd : 0 ≤ c.sent ∧ c.sent < 1000)
    (hk : ∀ n' H' D' P' v' u' E' F', n ≤ n' → (∀ i, i < n → ¬ D i → H' i = H i) → (∀ i, D' i → D i ∨ n ≤ i) → CliR H' w0 n' S D' (sendP c data).2 P' v' u' E' F' → K (skV (sendP c data).1) n' H') :
    ACall ⟨Try.prog, w0⟩ 20 [.pointer (some ⟨new S, 0, none⟩), .string data] K n H := by
  have hself := h.self
  obtain ⟨s1, s2, s3, s4⟩ := h.s
  have hEn := h.op.lt
  have hFn := h.dn.lt
  have hDS := (h.d S).2 (.inl rfl)
  have hop := h.op.sl
  have hlen : c.opn.length = (qts P).length := by rw [h.opn]; simp [qts]
  unfold sendP at hk
  refine ACall.run Try.func20 rfl Try.ntmps20 Try.results20 (by simp) fun J0 => ?_
  simp (disch := omega) [-hset_if, -Bool.decide_and, hset_ne, hself, hop.lenK]
  refine cif_dec (fun b1 => ?_) (fun b1 => ?_)
  · rw [if_pos (by omega)] at hk
    simp (disch := omega) [-hset_if, -Bool.decide_and, hset_ne]
    refine Fin_id ?_
    exact hk _ _ D P v u E F (by omega) (fun i hi _ => by simp (disch := omega) only [hset_ne]) (fun i h => .inl h) (h.frame (by omega) (fun i hi => by have := h.lt hi; simp (disch := omega) only [hset_ne]))
  rw [if_neg (by omega)] at hk
  simp (disch := omega) [-hset_if, -Bool.decide_and, hset_ne, hself, hop.lenK]
  refine cif_dec (fun b2 => ?_) (fun b2 => ?_)
  · rw [if_pos (by omega)] at hk
    simp (disch := omega) [-hset_if, -Bool.decide_and, hset_ne]
    refine Fin_id ?_
    exact hk _ _ D P v u E F (by omega) (fun i hi _ => by simp (disch := omega) only [hset_ne]) (fun i h => .inl h) (h.frame (by omega) (fun i hi => by have := h.lt hi; simp (disch := omega) only [hset_ne]))
  rw [if_neg (by omega)] at hk
  simp (disch := omega) [-hset_if, -Bool.decide_and, hset_ne, hself]
  refine AW.draw (X := ⟨_, 56, _, _⟩) (id := 6) mixed (.take 0 <| .take 1 <| .take 2 <| .take 3 <| .take 4 <| .take 5 <| .take 6 <| .take 7 <| .take 8 <| .take 9 <| .take 10 <| .take 11 <| .take 12 <| .take 13 <| .take 14 <| .take 15 <| .each 16 [] (.take 17 <| .done) <| .stop) (by kernel_rfl) ?_
  simp (disch := omega) [-hset_if, -Bool.decide_and, hset_ne, hself]
  generalize hH0 : hset (n + 1) _ (hset S _ (hset n _ H)) = H0
  have hR0 : H0 n = .cells [.int .i64 0, .int .i64 0, .string ⟨#[]⟩] 35 1 := by rw [← hH0, hset_ne (by omega), hset_ne (by omega), hset_same]
  have hW0 : H0 (n + 1) = .cells (newW c data).cells 105 1 := by rw [← hH0, hset_same]; rfl
  have hS0 : H0 S = .cells [.int .i64 c.pat, .int .i64 c.ret, .int .i64 c.boot, .int .i64 (c.sent + 1), v, u] 102 1 := by rw [← hH0, hset_ne (by omega), hset_same]
  have hfr0 : ∀ i, i < n → i ≠ S → H0 i = H i := fun i hi hS => by rw [← hH0]; simp (disch := omega) only [hset_ne]
  clear hH0
  have ho0 := h.op.frame (n := n) (m := n + 1 + 1) (H' := H0) (by omega) (fun i hi => hfr0 i (hEn i hi) (fun y => s1 (y ▸ hi)))
  refine ho0.push elemS100 zero103 (by simp) ⟨n + 1⟩ rfl rfl rfl (by omega) (by omega) ?_
  intro v1 n1 H1 E1 q1 q2 q3 q4 q5
  have hEno : ∀ i, n ≤ i → ¬ E i := fun i hi y => by have := hEn i y; omega
  have hS1 := q3 S (by omega) s1
  rw [hS0] at hS1
  have hR1 := q3 n (by omega) (hEno n (by omega))
  rw [hR0] at hR1
  have hW1 := q3 (n + 1) (by omega) (hEno _ (by omega))
  rw [hW0] at hW1
  have hW1' : H1 (n + 1) = .cells [.int .i64 c.boot, .int .i64 (c.sent + 1), .string data, .bool (c.boot != 0), .int .i64 0, .int .i64 0] 105 1 := hW1
  have hE1 : ∀ i, E1 i → (E i ∨ n + 1 + 1 < i) ∧ i ≠ S ∧ ¬ F i ∧ i ≠ n ∧ i ≠ n + 1 := fun i hi => by
    rcases q4 i hi with z | z
    · have := hEn i z
      exact ⟨.inl z, fun y => s1 (y ▸ z), h.ef i z, by omega, by omega⟩
    · exact ⟨.inr z, by omega, fun y => by have := hFn i y; omega, by omega, by omega⟩
  simp (disch := omega) [-hset_if, -Bool.decide_and, hset_ne, hS1, q5.sl.cells, q5.sl.one, hW1', hR1]
  refine Fin_id ?_
  have hfr : ∀ i, i < n → i ≠ S → ¬ E i → ∀ o o', hset n o (hset S o' H1) i = H i := fun i hi e1 e2 o o' => by rw [hset_ne (by omega), hset_ne e1, q3 i (by omega) e2, hfr0 i hi e1]
  have hP : ∀ p ∈ P, ∀ o o', hset n o (hset S o' H1) p.2 = H p.2 := fun p hp o o' => by
    obtain ⟨a1, a2, a3, a4⟩ := s4 p hp
    exact hfr _ a2 a1 a3 _ _
  refine hk _ _ (fun i => i = S ∨ E1 i ∨ F i ∨ ∃ p ∈ P ++ [(newW c data, n + 1)], i = p.2) (P ++ [(newW c data, n + 1)]) v1 u E1 F (by omega) (fun i hi hD => ?_) (fun i hi => ?_) ⟨?_, ?_, ?_, fun p hp => ?_, ?_, ?_, fun i => Iff.rfl, ⟨fun y => (hE1 S y).2.1 rfl, s2, by omega, fun p hp => ?_⟩, fun i hi => (hE1 i hi).2.2.1⟩
  · exact hfr i hi (fun y => hD (y ▸ hDS)) (fun y => hD ((h.d i).2 (.inr (.inl y)))) _ _
  · rcases hi with rfl | hi | hi | ⟨p, hp, rfl⟩
    · exact .inl hDS
    · rcases (hE1 i hi).1 with z | z
      · exact .inl ((h.d i).2 (.inr (.inl z)))
      · exact .inr (by omega)
    · exact .inl ((h.d i).2 (.inr (.inr (.inl hi))))
    · rcases List.mem_append.1 hp with hp | hp
      · exact .inl ((h.d _).2 (.inr (.inr (.inr ⟨p, hp, rfl⟩))))
      · simp only [List.mem_cons, List.not_mem_nil, or_false] at hp
        subst hp
        exact .inr (by dsimp only; omega)
  · rw [hset_ne (by omega), hset_same]
  · have hq : qts (P ++ [(newW c data, n + 1)]) = qts P ++ [⟨n + 1⟩] := by simp [qts]
    rw [hq]
    refine q5.frame (Nat.le_refl _) (fun i hi => ?_)
    have := hE1 i hi
    rw [hset_ne (by omega), hset_ne (by omega)]
  · refine h.dn.frame (by omega) (fun i hi => ?_)
    have := hFn i hi
    exact hfr i this (fun y => s2 (y ▸ hi)) (fun y => h.ef i y hi) _ _
  · rcases List.mem_append.1 hp with hp | hp
    · rw [hP p hp]; exact h.pen p hp
    · simp only [List.mem_cons, List.not_mem_nil, or_false] at hp
      subst hp
      rw [hset_ne (by dsimp only; omega), hset_ne (by dsimp only; omega)]
      exact hW1
  · dsimp only; rw [h.opn]; simp
  · rw [List.map_append, List.nodup_append]
    refine ⟨h.nd, by simp, fun a ha b hb e => ?_⟩
    obtain ⟨p, hp, rfl⟩ := List.mem_map.1 ha
    simp at hb
    have := s4 p hp
    omega
  · rcases List.mem_append.1 hp with hp | hp
    · obtain ⟨a1, a2, a3, a4⟩ := s4 p hp
      exact ⟨a1, by omega, fun y => by rcases (hE1 _ y).1 with z | z; exact a3 z; omega, a4⟩
    · simp only [List.mem_cons, List.not_mem_nil, or_false] at hp
      subst hp
      dsimp only
      exact ⟨by omega, by omega, fun y => (hE1 _ y).2.2.2.2 rfl, fun y => by have := hFn _ y; omega⟩
/-- Rule 2. -/
def handC (c : Cl) (a : Ans) : List Ask × Cl :=
  let i := fidx (fun w : Wt => w.inv == a.inv) c.opn
  if i < 0 then ([], c)
  else if a.code ≠ 15 then
    if a.boot = (at_ c.opn i).boot then ([], endC c (c.opn.eraseIdx i.toNat) a) else ([], c)
  else if a.boot ≤ (at_ c.opn i).boot then ([], c)
  else if (at_ c.opn i).known then ([], endC { c with boot := max c.boot a.boot } (c.opn.eraseIdx i.toNat) a)
  else ([{ (at_ c.opn i) with boot := a.boot, known := true, wait := 0 : Wt }.ask], { c with boot := max c.boot a.boot, opn := c.opn.set i.toNat { (at_ c.opn i) with boot := a.boot, known := true, wait := 0 } })
theorem CliR.setC {S : Nat} {D E F : Nat → Prop} {c c' : Cl} {P : List (Wt × Nat)} {v u : Value} (h : CliR H w0 n S D c P v u E F) (h1 : c'.opn = c.opn) (h2 : c'.done = c.done) {n' : Nat} {H' : Heap} (hn : n ≤ n') (h3 : H' S = .cells [.int .i64 c'.pat, .int .i64 c'.ret, .int .i64 c'.boot, .int .i64 c'.sent, v, u] 102 1) (h4 : ∀ i, D i → i ≠ S → H' i = H i) : CliR H' w0 n' S D c' P v u E F := by
  obtain ⟨s1, s2, s3, s4⟩ := h.s
  exact ⟨h3, h.op.frame hn (fun i hi => h4 i ((h.d i).2 (.inr (.inl hi))) (fun y => s1 (y ▸ hi))), by rw [h2]; exact h.dn.frame hn (fun i hi => h4 i ((h.d i).2 (.inr (.inr (.inl hi)))) (fun y => s2 (y ▸ hi))),
    fun p hp => by rw [h4 _ ((h.d _).2 (.inr (.inr (.inr ⟨p, hp, rfl⟩)))) (s4 p hp).1]; exact h.pen p hp, by rw [h1]; exact h.opn, h.nd, h.d, ⟨s1, s2, by omega, fun p hp => by have := s4 p hp; exact ⟨this.1, by omega, this.2.2⟩⟩, h.ef⟩
theorem CliR.setP {S : Nat} {D E F : Nat → Prop} {c c' : Cl} {P1 P2 : List (Wt × Nat)} {w w' : Wt} {q : Nat} {v u : Value} (h : CliR H w0 n S D c (P1 ++ (w, q) :: P2) v u E F) (h1 : c' = { c with opn := P1.map Prod.fst ++ w' :: P2.map Prod.fst }) {n' : Nat} {H' : Heap} (hn : n ≤ n') (h3 : H' q = .cells w'.cells 105 1) (h4 : ∀ i, D i → i ≠ q → H' i = H i) : CliR H' w0 n' S D c' (P1 ++ (w', q) :: P2) v u E F := by
  obtain ⟨s1, s2, s3, s4⟩ := h.s
  have hq := s4 (w, q) (by simp)
  dsimp only at hq
  have hqs : qts (P1 ++ (w', q) :: P2) = qts (P1 ++ (w, q) :: P2) := by simp [qts]
  have hsn : (P1 ++ (w', q) :: P2).map Prod.snd = (P1 ++ (w, q) :: P2).map Prod.snd := by simp
  have hmem : ∀ p ∈ P1 ++ (w', q) :: P2, p = (w', q) ∨ p ∈ P1 ++ (w, q) :: P2 := fun p hp => by
    simp only [List.mem_append, List.mem_cons] at hp ⊢
    rcases hp with hp | hp | hp
    · exact .inr (.inl hp)
    · exact .inl hp
    · exact .inr (.inr (.inr hp))
  have hne : ∀ p ∈ P1 ++ (w', q) :: P2, p = (w', q) ∨ p ∈ P1 ++ (w, q) :: P2 ∧ p.2 ≠ q := fun p hp => by
    have hnd := h.nd
    rw [List.map_append, List.map_cons, List.nodup_append, List.nodup_cons] at hnd
    obtain ⟨_, ⟨g1, _⟩, g2⟩ := hnd
    simp only [List.mem_append, List.mem_cons] at hp ⊢
    rcases hp with hp | hp | hp
    · exact .inr ⟨.inl hp, fun e => g2 _ (List.mem_map_of_mem hp) q (by simp) e⟩
    · exact .inl hp
    · exact .inr ⟨.inr (.inr hp), fun e => g1 (List.mem_map.2 ⟨p, hp, e⟩)⟩
  subst h1
  refine ⟨by rw [h4 S ((h.d S).2 (.inl rfl)) (fun e => hq.1 e.symm)]; exact h.self, ?_, h.dn.frame hn (fun i hi => h4 i ((h.d i).2 (.inr (.inr (.inl hi)))) (by rintro rfl; exact hq.2.2.2 hi)), fun p hp => ?_, by simp, by rw [hsn]; exact h.nd, fun i => ?_, ⟨s1, s2, by omega, fun p hp => ?_⟩, h.ef⟩
  · rw [hqs]
    exact h.op.frame hn (fun i hi => h4 i ((h.d i).2 (.inr (.inl hi))) (by rintro rfl; exact hq.2.2.1 hi))
  · rcases hne p hp with rfl | ⟨hp, e⟩
    · exact h3
    · rw [h4 _ ((h.d _).2 (.inr (.inr (.inr ⟨p, hp, rfl⟩)))) e]; exact h.pen p hp
  · rw [h.d]
    have : (∃ p ∈ P1 ++ (w, q) :: P2, i = p.2) ↔ ∃ p ∈ P1 ++ (w', q) :: P2, i = p.2 := by
      constructor
      · rintro ⟨p, hp, rfl⟩
        have : p.2 ∈ (P1 ++ (w', q) :: P2).map Prod.snd := by rw [hsn]; exact List.mem_map_of_mem hp
        obtain ⟨p', hp', e⟩ := List.mem_map.1 this
        exact ⟨p', hp', e.symm⟩
      · rintro ⟨p, hp, rfl⟩
        have : p.2 ∈ (P1 ++ (w, q) :: P2).map Prod.snd := by rw [← hsn]; exact List.mem_map_of_mem hp
        obtain ⟨p', hp', e⟩ := List.mem_map.1 this
        exact ⟨p', hp', e.symm⟩
    rw [this]
  · rcases hmem p hp with rfl | hp
    · exact ⟨hq.1, by dsimp only; omega, hq.2.2⟩
    · have := s4 p hp; exact ⟨this.1, by omega, this.2.2⟩
/-- What stands behind a pointer. -/
def wOf (P : List (Wt × Nat)) (q : Nat) : Wt := ((P.find? fun p => decide (p.2 = q)).map Prod.fst).getD default
theorem wOf_mem {P : List (Wt × Nat)} (h : (P.map Prod.snd).Nodup) {p : Wt × Nat} (hp : p ∈ P) : wOf P p.2 = p.1 := by
  induction P with
  | nil => simp at hp
  | cons x P ih =>
    rw [List.map_cons, List.nodup_cons] at h
    unfold wOf
    rw [List.find?_cons]
    rcases List.mem_cons.1 hp with rfl | hp
    · simp
    · have : ¬ x.2 = p.2 := fun e => h.1 (e ▸ List.mem_map_of_mem hp)
      simp only [this, decide_false]
      exact ih h.2 hp
theorem fidx_qts {f : Qt → Bool} {g : Wt → Bool} : ∀ {P : List (Wt × Nat)}, (∀ p ∈ P, f ⟨p.2⟩ = g p.1) → fidx f (qts P) = fidx g (P.map Prod.fst)
  | [], _ => rfl
  | p :: P, h => by
    have ih := fidx_qts (P := P) (fun p hp => h p (List.mem_cons_of_mem _ hp))
    have h0 := h p (List.mem_cons_self ..)
    have e1 : qts (p :: P) = ⟨p.2⟩ :: qts P := rfl
    rw [e1, List.map_cons, fidx, fidx, ih, h0]
theorem split_at {α : Type} : ∀ {l : List α} {j : Nat}, j < l.length → ∃ l1 x l2, l = l1 ++ x :: l2 ∧ l1.length = j
  | [], j, h => by simp at h
  | x :: l, 0, _ => ⟨[], x, l, rfl, rfl⟩
  | y :: l, j + 1, h => by
    obtain ⟨l1, x, l2, e, hl⟩ := split_at (l := l) (j := j) (by simpa using h)
    exact ⟨y :: l1, x, l2, by rw [e]; rfl, by simp [hl]⟩
theorem at_split {α : Type} [Inhabited α] {l1 l2 : List α} {x : α} : at_ (l1 ++ x :: l2) (l1.length : Int) = x := by
  rw [at_nat (by simp)]; simp
theorem CHandle_ok {S : Nat} {D E F : Nat → Prop} {c : Cl} {P : List (Wt × Nat)} {v u : Value} {a : Ans} (h : CliR H w0 n S D c P v u E F) (hl : c.opn.length ≤ 1000) (hl2 : c.done.length < 1000)
    (hk : ∀ n' H' D' P' v' u' E' F' x G, n ≤ n' → (∀ i, i < n → ¬ D i → H' i = H i) → (∀ i, D' i → D i ∨ n ≤ i) → CliR H' w0 n' S D' (handC c a).2 P' v' u' E' F' → OwR ⟨Try.prog, w0⟩ H' n' G 35 3 Ask.cells x (handC c a).1 → (∀ i, G i → n ≤ i ∧ ¬ D' i) → K x n' H') :
    ACall ⟨Try.prog, w0⟩ 23 [.pointer (some ⟨new S, 0, none⟩), .agg a.cells.toArray] K n H := by
  have hself := h.self
  obtain ⟨s1, s2, s3, s4⟩ := h.s
  have hEn := h.op.lt
  have hFn := h.dn.lt
  have hDS := (h.d S).2 (.inl rfl)
  have hop := h.op.sl
  have hlen : c.opn.length = (qts P).length := by rw [h.opn]; simp [qts]
  unfold handC at hk
  dsimp only at hk
  refine ACall.run Try.func23 rfl Try.ntmps23 Try.results23 (by simp) fun J0 => ?_
  simp (disch := omega) [-hset_if, -Bool.decide_and, hset_ne, hself]
  have h1' := h.frame (n' := n + 1) (H' := hset n (.cells [.int .i64 a.boot, .int .i64 a.inv, .int .i64 a.code, .string a.data] 33 1) H) (by omega) (fun i hi => hset_ne (by have := h.lt hi; omega) _ _)
  generalize hH0 : hset n _ H = H0 at *
  have hA0 : H0 n = .cells a.cells 33 1 := by rw [← hH0, hset_same]; rfl
  have hfr0 : ∀ i, i < n → H0 i = H i := fun i hi => by rw [← hH0, hset_ne (by omega)]
  clear hH0
  refine indexQt_ok (p := fun r => (wOf P r.q).inv == a.inv) h1'.op.sl (fun i hi => by have := hEn i hi; omega) (fun r hr n' H' K' e1 e2 e3 => ?_) (by omega) (by kernel_rfl) ?_
  · obtain ⟨p, hp, rfl⟩ := List.mem_map.1 hr
    obtain ⟨a1, a2, a3, a4⟩ := s4 p hp
    dsimp only
    rw [wOf_mem h.nd hp] at e3
    refine invF_ok (w := p.1) (a := a) ?_ ?_ (fun n'' H'' g1 g2 => e3 n'' H'' g1 g2)
    · rw [e2 n (by omega)]; exact hA0
    · rw [e2 _ (by omega)]; exact h1'.pen p hp
  intro n1 H1 e1 e2
  rw [fidx_qts (g := fun w => w.inv == a.inv) (fun p hp => by rw [wOf_mem h.nd hp]), ← h.opn]
  have h1 := h1'.frame e1 (fun i hi => e2 i (by have := h.lt hi; omega))
  have hA1 : H1 n = .cells a.cells 33 1 := by rw [e2 n (by omega)]; exact hA0
  have hA1' : H1 n = .cells [.int .i64 a.boot, .int .i64 a.inv, .int .i64 a.code, .string a.data] 33 1 := hA1
  have hS1 := h1.self
  have hfr1 : ∀ i, i < n → H1 i = H i := fun i hi => by rw [e2 i (by omega), hfr0 i hi]
  simp (disch := omega) [-hset_if, -Bool.decide_and, hset_ne]
  refine cif_dec (fun b1 => ?_) (fun b1 => ?_)
  · rw [if_pos b1] at hk
    simp (disch := omega) [-hset_if, -Bool.decide_and, hset_ne]
    refine Fin_id ?_
    exact hk _ _ D P v u E F _ (fun _ => False) (by omega) (fun i hi _ => hfr1 i hi) (fun i h => .inl h) h1 (OwR.nil (by omega)) (fun _ h => h.elim)
  rw [if_neg b1] at hk
  obtain ⟨j, hj⟩ : ∃ j : Nat, fidx (fun w : Wt => w.inv == a.inv) c.opn = (j : Int) := ⟨(fidx (fun w : Wt => w.inv == a.inv) c.opn).toNat, by omega⟩
  obtain ⟨hjl, -, -⟩ := fidx_spec hj
  rw [hj] at hk ⊢
  obtain ⟨P1, ⟨w, q⟩, P2, rfl, hP1⟩ := split_at (l := P) (j := j) (by rw [h.opn] at hjl; simpa using hjl)
  have hatq : at_ (qts (P1 ++ (w, q) :: P2)) (j : Int) = ⟨q⟩ := by
    have : qts (P1 ++ (w, q) :: P2) = qts P1 ++ ⟨q⟩ :: qts P2 := by simp [qts]
    have hl1 : (qts P1).length = j := by simp [qts, hP1]
    rw [this, ← hl1]; exact at_split
  have hopn : c.opn = P1.map Prod.fst ++ w :: P2.map Prod.fst := by rw [h.opn]; simp
  have hl1 : (P1.map Prod.fst).length = j := by simp [hP1]
  have hatw : at_ c.opn (j : Int) = w := by rw [hopn, ← hl1]; exact at_split
  have her : c.opn.eraseIdx (j : Int).toNat = (P1 ++ P2).map Prod.fst := by
    rw [hopn, Int.toNat_natCast, List.eraseIdx_append_of_length_le (by omega), hl1]; simp
  have hset' : ∀ y, c.opn.set (j : Int).toNat y = P1.map Prod.fst ++ y :: P2.map Prod.fst := fun y => by
    rw [hopn, Int.toNat_natCast, List.set_append_right _ _ (by omega), hl1]; simp
  rw [hatw, her] at hk
  have hq1 : H1 q = .cells [.int .i64 w.boot, .int .i64 w.inv, .string w.data, .bool w.known, .int .i64 w.rep, .int .i64 w.wait] 105 1 := h1.pen (w, q) (by simp)
  obtain ⟨aq1, aq2, aq3, aq4⟩ := s4 (w, q) (by simp)
  dsimp only at aq1 aq2 aq3 aq4
  have hlq : (qts (P1 ++ (w, q) :: P2)).length = c.opn.length := hlen.symm
  simp (disch := omega) [-hset_if, -Bool.decide_and, hset_ne, hS1, h1.op.sl.ix elemS100, h1.op.sl.load0 shp103, hlq, hatq, hA1']
  refine cif_bne (fun c1 => ?_) (fun c1 => ?_)
  rotate_left
  · rw [if_pos c1] at hk
    simp (disch := omega) [-hset_if, -Bool.decide_and, hset_ne]
    refine AW.draw (X := ⟨_, 80, _, _⟩) (id := 6) mixed (.take 0 <| .take 1 <| .take 2 <| .take 3 <| .take 4 <| .take 5 <| .take 6 <| .take 7 <| .done) (by kernel_rfl) ?_
    simp (disch := omega) [-hset_if, -Bool.decide_and, hset_ne, hA1', hq1]
    refine cif_beq (fun c2 => ?_) (fun c2 => ?_)
    · rw [if_pos c2] at hk
      simp (disch := omega) [-hset_if, -Bool.decide_and, hset_ne, hA1']
      refine finish_ok (a := a) h1 (by rw [← List.length_map (f := Prod.fst), ← h.opn]; exact hl) hl2 ?_
      intro n2 H2 D2 v2 u2 E2 F2 d1 d2 d3 d4
      simp (disch := omega) [-hset_if, -Bool.decide_and, hset_ne]
      refine Fin_id ?_
      exact hk _ _ D2 _ v2 u2 E2 F2 _ (fun _ => False) (by omega) (fun i hi hD => by rw [d2 i (by omega) hD, hfr1 i hi]) (fun i hi => by rcases d3 i hi with z | z; exact .inl z; exact .inr (by omega)) d4 (OwR.nil (by omega)) (fun _ h => h.elim)
    · rw [if_neg c2] at hk
      simp (disch := omega) [-hset_if, -Bool.decide_and, hset_ne]
      refine Fin_id ?_
      exact hk _ _ D _ v u E F _ (fun _ => False) (by omega) (fun i hi _ => hfr1 i hi) (fun i h => .inl h) h1 (OwR.nil (by omega)) (fun _ h => h.elim)
  rw [if_neg (by simp [c1])] at hk
  simp (disch := omega) [-hset_if, -Bool.decide_and, hset_ne]
  refine AW.draw (X := ⟨_, 80, _, _⟩) (id := 9) mixed (.take 0 <| .take 1 <| .take 2 <| .take 3 <| .take 4 <| .take 5 <| .take 6 <| .take 7 <| .done) (by kernel_rfl) ?_
  simp (disch := omega) [-hset_if, -Bool.decide_and, hset_ne, hA1', hq1]
  refine cif_dec (fun c2 => ?_) (fun c2 => ?_)
  · rw [if_pos c2] at hk
    simp (disch := omega) [-hset_if, -Bool.decide_and, hset_ne]
    refine Fin_id ?_
    exact hk _ _ D _ v u E F _ (fun _ => False) (by omega) (fun i hi _ => hfr1 i hi) (fun i h => .inl h) h1 (OwR.nil (by omega)) (fun _ h => h.elim)
  rw [if_neg c2] at hk
  simp (disch := omega) [-hset_if, -Bool.decide_and, hset_ne]
  refine AW.draw (X := ⟨_, 80, _, _⟩) (id := 11) mixed (.take 0 <| .take 1 <| .take 2 <| .take 3 <| .take 4 <| .take 5 <| .take 6 <| .take 7 <| .take 8 <| .take 9 <| .each 10 [] (.done) <| .stop) (by kernel_rfl) ?_
  simp (disch := omega) [-hset_if, -Bool.decide_and, hset_ne, hA1', hS1, mx_eq, hq1]
  have h2 : CliR (hset S (.cells [.int .i64 c.pat, .int .i64 c.ret, .int .i64 (max c.boot a.boot), .int .i64 c.sent, v, u] 102 1) H1) w0 n1 S D { c with boot := max c.boot a.boot } (P1 ++ (w, q) :: P2) v u E F := h1.setC (c' := { c with boot := max c.boot a.boot }) rfl rfl (Nat.le_refl _) (hset_same _ _ _) (fun i _ hi => hset_ne hi _ _)
  generalize hH2 : hset S _ H1 = H2 at *
  have hfr2 : ∀ i, i ≠ S → H2 i = H1 i := fun i hi => by rw [← hH2, hset_ne hi]
  clear hH2
  have hq2 : H2 q = .cells [.int .i64 w.boot, .int .i64 w.inv, .string w.data, .bool w.known, .int .i64 w.rep, .int .i64 w.wait] 105 1 := h2.pen (w, q) (by simp)
  have hA2 : H2 n = .cells [.int .i64 a.boot, .int .i64 a.inv, .int .i64 a.code, .string a.data] 33 1 := by rw [hfr2 n (by omega)]; exact hA1'
  refine cif_var (fun c3 => ?_) (fun c3 => ?_)
  · rw [if_pos c3] at hk
    simp (disch := omega) [-hset_if, -Bool.decide_and, hset_ne, hA2]
    refine finish_ok (a := a) h2 (by rw [← List.length_map (f := Prod.fst), ← h.opn]; exact hl) hl2 ?_
    intro n3 H3 D3 v3 u3 E3 F3 d1 d2 d3 d4
    simp (disch := omega) [-hset_if, -Bool.decide_and, hset_ne]
    refine Fin_id ?_
    exact hk _ _ D3 _ v3 u3 E3 F3 _ (fun _ => False) (by omega) (fun i hi hD => by rw [d2 i (by omega) hD, hfr2 i (fun y => hD (y ▸ hDS)), hfr1 i hi]) (fun i hi => by rcases d3 i hi with z | z; exact .inl z; exact .inr (by omega)) d4 (OwR.nil (by omega)) (fun _ h => h.elim)
  rw [if_neg (by simp [c3]), hset'] at hk
  simp (disch := omega) [-hset_if, -Bool.decide_and, hset_ne, hq2, hA2]
  refine Fin_id ?_
  have hDq : D q := (h.d q).2 (.inr (.inr (.inr ⟨(w, q), by simp, rfl⟩)))
  have h3 := h2.setP (w' := { w with boot := a.boot, known := true, wait := 0 }) rfl (n' := n1 + 1) (H' := hset n1 (.cells [.int .i64 a.boot, .int .i64 w.inv, .string w.data] 35 3) (hset q (.cells [.int .i64 a.boot, .int .i64 w.inv, .string w.data, .bool true, .int .i64 w.rep, .int .i64 0] 105 1) H2)) (by omega) (by rw [hset_ne (by omega), hset_same]; rfl) (fun i hi hq => by have := h.lt hi; rw [hset_ne (by omega), hset_ne hq])
  refine hk _ _ D _ v u E F _ (· = n1) (by omega) (fun i hi hD => ?_) (fun i h => .inl h) h3 (OwR.lit (by omega) (fun x hx => by simp at hx; subst hx; rfl) (by omega) (hset_same _ _ _) (by simp [Wt.ask]) (by simp)) (fun i hi => ⟨by omega, fun y => by have := h.lt y; omega⟩)
  have e1 : i ≠ q := fun y => hD (y ▸ hDq)
  have e2 : i ≠ S := fun y => hD (y ▸ hDS)
  rw [hset_ne (by omega), hset_ne e1, hfr2 i e2, hfr1 i hi]
end Go.Aw.S50
