/-
  Chapter 50: the client's objects; a request gets its outcome.
-/
import Derived.Test.YtfeclhjbkphjdaaS50i
namespace Go.Aw.S50
open Go.RowKit Go.Proofs Go.Aw.Tab
set_option linter.unusedSimpArgs false
set_option linter.unusedVariables false
set_option maxRecDepth 10000
set_option maxHeartbeats 2000000
set_option pp.deepTerms false
set_option pp.deepTerms.threshold 4
set_option pp.maxSteps 1500
variable {w0 : World} {n : Nat} {H : Heap} {K : Value → Nat → Heap → Prop}
/-- A pending request. -/
structure Wt where
  boot : Int
  inv : Int
  data : ByteArray
  known : Bool
  rep : Int
  wait : Int
def Wt.cells (w : Wt) : List Value := [.int .i64 w.boot, .int .i64 w.inv, .string w.data, .bool w.known, .int .i64 w.rep, .int .i64 w.wait]
def Wt.ask (w : Wt) : Ask := ⟨w.boot, w.inv, w.data⟩
instance : Inhabited Wt := ⟨⟨0, 0, ⟨#[]⟩, false, 0, 0⟩⟩
/-- A pointer to one. -/
structure Qt where
  q : Nat
def Qt.val (r : Qt) : Value := .pointer (some ⟨new r.q, 0, none⟩)
def Qt.cells (r : Qt) : List Value := [.pointer (some ⟨new r.q, 0, none⟩)]
instance : Inhabited Qt := ⟨⟨0⟩⟩
attribute [local simp] Ans.cells Ask.cells Opn.cells Wt.cells Qt.cells
theorem ptrSz103 : ptrSz Try.prog 103 = true := by kernel_rfl
/-- slices.IndexFunc and ContainsFunc over Qt. -/
theorem indexQt_ok {v : Value} {D : Nat → Prop} {xs : List Qt} {g : FuncId} {caps : Array Value} {p : Qt → Bool} (hs : SlR ⟨Try.prog, w0⟩ H D 1 Qt.cells v xs) (hD : ∀ i, D i → i < n)
    (hg : ∀ r ∈ xs, ∀ n' H' (K' : Value → Nat → Heap → Prop), n ≤ n' → (∀ i, i < n → H' i = H i) → (∀ n'' H'', n' ≤ n'' → (∀ i, i < n' → H'' i = H' i) → K' (.bool (p r)) n'' H'') → ACall ⟨Try.prog, w0⟩ g ((.pointer (some ⟨new r.q, 0, none⟩)) :: caps.toList) K' n' H')
    (hb : xs.length < 9223372036854775807) (hent : entB Try.prog g = true) (hk : ∀ n' H', n ≤ n' → (∀ i, i < n → H' i = H i) → K (.int .i64 (fidx p xs)) n' H') : ACall ⟨Try.prog, w0⟩ 38 [v, .func (.func g) #[] caps] K n H := by
  refine ACall.run Try.func38 rfl Try.ntmps38 Try.results38 (by simp) fun J0 => ?_
  simp (disch := omega) [-hset_if, -Bool.decide_and, hset_ne, hs.lenK]
  refine AW.while (σ := Nat) (fun j => xs.length - j) (fun j => [(0, v), (1, .func (.func g) #[] caps), (7, .int .i64 xs.length), (8, .int .i64 j)]) (fun j n1 H1 => j ≤ xs.length ∧ n ≤ n1 ∧ (∀ i, i < n → H1 i = H i) ∧ ∀ q, q < j → p (at_ xs (q : Int)) = false) 0 ?_ ?_ ?_
  · simp (disch := omega) [-hset_if, -Bool.decide_and, hset_ne]
  · exact ⟨by omega, Nat.le_refl _, fun _ _ => rfl, fun q hq => by omega⟩
  rintro j n1 H1 ⟨g1, g2, g3, g4⟩
  have hs1 : SlR ⟨Try.prog, w0⟩ H1 D 1 Qt.cells v xs := hs.frame (fun i hi => g3 i (hD i hi))
  simp (disch := omega) [-hset_if, -Bool.decide_and, hset_ne]
  refine cif_dec (fun h => ?_) (fun h => ?_)
  · have hx : at_ xs (j : Int) ∈ xs := by rw [at_nat h]; exact List.getElem_mem _
    simp (disch := omega) [-hset_if, -Bool.decide_and, hset_ne, hs1.ix elemS100, hs1.load0 shp103, hent]
    have hc := hg _ hx n1 H1
    refine hc _ g2 g3 ?_
    intro n2 H2 e1 e2
    simp (disch := omega) [-hset_if, -Bool.decide_and, hset_ne]
    refine cif_var (fun hp => ?_) (fun hp => ?_)
    · simp (disch := omega) [-hset_if, -Bool.decide_and, hset_ne]
      refine Fin_id ?_
      rw [fidx_found h hp g4] at hk
      exact hk _ _ (by omega) (fun i hi => by rw [e2 i (by omega), g3 i hi])
    · simp (disch := omega) [-hset_if, -Bool.decide_and, hset_ne]
      refine Next.mk (j + 1) (by first | omega | (simp only; omega)) (by simp (disch := omega) [-hset_if, -Bool.decide_and, hset_ne]) ⟨by omega, by omega, fun i hi => by rw [e2 i (by omega), g3 i hi], fun q hq => ?_⟩
      by_cases e : q < j
      · exact g4 q e
      · obtain rfl : q = j := by omega
        exact hp
  · simp (disch := omega) [-hset_if, -Bool.decide_and, hset_ne]
    refine Fin_id ?_
    rw [fidx_none (fun q hq => g4 q (by omega))] at hk
    exact hk _ _ g2 g3
/-- slices.Clone of Qt. -/
theorem cloneQt_ok {v : Value} {D : Nat → Prop} {xs : List Qt} (hs : SlR ⟨Try.prog, w0⟩ H D 1 Qt.cells v xs) (hD : ∀ i, D i → i < n) (hone : ∀ x ∈ xs, oneAll (Qt.cells x) = true)
    (hb : xs.length * 8 ≤ 140737488355328) (hl : xs.length ≤ 140737488355328)
    (hk : ∀ v' n' H' E, n ≤ n' → (∀ i, i < n → H' i = H i) → (∀ i, E i → n ≤ i ∧ i < n') → OwR ⟨Try.prog, w0⟩ H' n' E 103 1 Qt.cells v' xs → K v' n' H') : ACall ⟨Try.prog, w0⟩ 42 [v] K n H := by
  refine ACall.run Try.func42 rfl Try.ntmps42 Try.results42 (by simp) fun J0 => ?_
  simp (disch := omega) [-hset_if, -Bool.decide_and, hset_ne, hs.eqNil tk100]
  refine cif_var (fun hv => ?_) (fun hv => ?_)
  · obtain ⟨rfl, rfl⟩ := hs.of_nil hv
    simp (disch := omega) [-hset_if, -Bool.decide_and, hset_ne]
    refine Fin_id ?_
    exact hk _ n H (fun _ => False) (Nat.le_refl _) (fun _ _ => rfl) (fun _ h => h.elim) (OwR.nil (by omega))
  · simp (disch := omega) [-hset_if, -Bool.decide_and, hset_ne]
    have ho := OwR.empty (C := ⟨Try.prog, w0⟩) (f := Qt.cells) (T := 103) (sz := 1) (n := n + 1) (j := n) (H := hset n (.cells [] 103 1) H) (by omega) (by omega) (hset_same _ _ _)
    have hs1 : SlR ⟨Try.prog, w0⟩ (hset n (.cells [] 103 1) H) D 1 Qt.cells v xs := hs.frame (fun i hi => hset_ne (by have := hD i hi; omega) _ _)
    refine ho.appendS elemS100 zero103 (by simp) hs1 hone (by simpa using hb) (by simpa using hl) ?_
    intro v' n' H' D' h1 h2 h3 h4 h5
    simp (disch := omega) [-hset_if, -Bool.decide_and, hset_ne]
    refine Fin_id ?_
    refine hk v' n' H' D' (by omega) (fun i hi => by rw [h3 i (by omega) (by omega), hset_ne (by omega)]) (fun i hi => ⟨?_, h5.lt i hi⟩) (by simpa using h5)
    rcases h4 i hi with h | h <;> omega
/-- slices.DeleteFunc of Qt (one cell), of a slice of the program's own. -/
theorem deleteQt_ok {v : Value} {D : Nat → Prop} {xs : List Qt} {g : FuncId} {caps : Array Value} {p : Qt → Bool} (hs : OwR ⟨Try.prog, w0⟩ H n D 103 1 Qt.cells v xs)
    (hg : ∀ r ∈ xs, ∀ n' H' (K' : Value → Nat → Heap → Prop), n ≤ n' → (∀ i, i < n → ¬ D i → H' i = H i) → (∀ n'' H'', n' ≤ n'' → (∀ i, i < n' → H'' i = H' i) → K' (.bool (p r)) n'' H'') → ACall ⟨Try.prog, w0⟩ g ((.pointer (some ⟨new r.q, 0, none⟩)) :: caps.toList) K' n' H')
    (hb : xs.length < 4611686018427387904) (hent : entB Try.prog g = true)
    (hk : ∀ v' n' H', n ≤ n' → (∀ i, i < n → ¬ D i → H' i = H i) → OwR ⟨Try.prog, w0⟩ H' n' D 103 1 Qt.cells v' (xs.filter fun x => !p x) → K v' n' H') : ACall ⟨Try.prog, w0⟩ 45 [v, .func (.func g) #[] caps] K n H := by
  have hDn : ∀ i, D i → i < n := hs.lt
  refine ACall.run Try.func45 rfl Try.ntmps45 Try.results45 (by simp) fun J0 => ?_
  simp (disch := omega) [-hset_if, -Bool.decide_and, hset_ne]
  refine indexQt_ok (p := p) hs.sl hDn (fun r hr n' H' K' h1 h2 h3 => hg r hr n' H' K' h1 (fun i hi _ => h2 i hi) h3) (by omega) hent ?_
  intro n1 H1 e1 e2
  have hs1 : OwR ⟨Try.prog, w0⟩ H1 n1 D 103 1 Qt.cells v xs := hs.frame e1 (fun i hi => e2 i (hDn i hi))
  simp (disch := omega) [-hset_if, -Bool.decide_and, hset_ne]
  refine cif_beq (fun hi => ?_) (fun hi => ?_)
  · simp (disch := omega) [-hset_if, -Bool.decide_and, hset_ne]
    refine Fin_id ?_
    have hn : xs.filter (fun x => !p x) = xs := by
      have h1 : (0 : Int) ≤ fidx p xs ↔ xs.any p = true := by rw [← fidx_any, decide_eq_true_iff]
      rw [List.filter_eq_self]
      intro x hx
      rw [Bool.not_eq_true']
      cases hp : p x with
      | false => rfl
      | true =>
        have := h1.2 (List.any_eq_true.2 ⟨x, hx, hp⟩)
        omega
    refine hk v n1 H1 e1 (fun i h _ => e2 i h) ?_
    rw [hn]; exact hs1
  have hge := fidx_ge p xs
  obtain ⟨j0, hj0⟩ : ∃ j0 : Nat, fidx p xs = (j0 : Int) := ⟨(fidx p xs).toNat, by omega⟩
  obtain ⟨hjl, hjp, hjn⟩ := fidx_spec hj0
  rw [hj0]
  simp (disch := omega) [-hset_if, -Bool.decide_and, hset_ne]
  refine AW.while (σ := Nat × Nat × List Qt) (fun s => xs.length - s.1) (fun s => [(0, v), (1, .func (.func g) #[] caps), (5, .int .i64 (s.2.1 : Int)), (6, .int .i64 (s.1 : Int))])
    (fun s n2 H2 => n ≤ n2 ∧ (∀ i, i < n → ¬ D i → H2 i = H i) ∧ OwR ⟨Try.prog, w0⟩ H2 n2 D 103 1 Qt.cells v s.2.2 ∧ s.2.2.length = xs.length ∧ s.1 ≤ xs.length ∧ s.2.1 < s.1 ∧ s.2.2.drop s.1 = xs.drop s.1 ∧ s.2.2.take s.2.1 = (xs.take s.1).filter (fun x => !p x)) (j0 + 1, j0, xs) ?_ ?_ ?_
  · simp (disch := omega) [-hset_if, -Bool.decide_and, hset_ne]
  · refine ⟨e1, fun i h _ => e2 i h, hs1, rfl, by dsimp only; omega, by dsimp only; omega, rfl, ?_⟩
    dsimp only
    rw [filter_take hjl, hjp]
    simp only [Bool.not_true, Bool.false_eq_true, if_false, List.append_nil]
    symm
    rw [List.filter_eq_self]
    intro x hx
    obtain ⟨q, hq, rfl⟩ := List.getElem_of_mem hx
    have hq' : q < j0 := by simp at hq; omega
    have := hjn q hq'
    rw [at_nat (by omega)] at this
    simp [this]
  rintro ⟨j, b, ys⟩ n2 H2 ⟨g1, g2, g3, g4, g5, g6, g7, g8⟩
  dsimp only at g3 g4 g5 g6 g7 g8 ⊢
  have hl := g3.sl.lenK
  rw [g4] at hl
  simp (disch := omega) [-hset_if, -Bool.decide_and, hset_ne, hl]
  refine cif_dec (fun h => ?_) (fun h => ?_)
  · have hjl : j < xs.length := by omega
    have hjy : j < ys.length := by omega
    have hat : at_ ys (j : Int) = at_ xs (j : Int) := by
      have h1 := congrArg (fun l => l[0]?) g7
      simp only [List.getElem?_drop, Nat.add_zero] at h1
      rw [at_nat hjy, at_nat hjl]
      simpa [hjy, hjl] using h1
    have hx : at_ xs (j : Int) ∈ xs := at_mem hjl
    simp (disch := omega) [-hset_if, -Bool.decide_and, hset_ne, g3.sl.ix elemS100, g3.sl.load0 shp103, hat, hjy, hent]
    have hD2 := fun i hi => g3.lt i hi
    refine hg _ hx _ _ _ (by omega) (fun i hi hd => g2 i hi hd) ?_
    intro n3 H3 e3 e4
    have g9 : OwR ⟨Try.prog, w0⟩ H3 n3 D 103 1 Qt.cells v ys := g3.frame (by omega) (fun i hi => by have := hD2 i hi; rw [e4 i (by omega)])
    have hfr : ∀ i, i < n → ¬ D i → H3 i = H i := fun i hi hd => by rw [e4 i (by omega)]; exact g2 i hi hd
    simp (disch := omega) [-hset_if, -Bool.decide_and, hset_ne]
    refine cif_var (fun hp => ?_) (fun hp => ?_)
    · simp (disch := omega) [-hset_if, -Bool.decide_and, hset_ne, hp]
      refine Next.mk (j + 1, b, ys) (by first | omega | (dsimp only; omega)) (by simp (disch := omega) [-hset_if, -Bool.decide_and, hset_ne]) ⟨by omega, hfr, g9, g4, (by first | omega | (dsimp only; omega)), (by first | omega | (dsimp only; omega)), ?_, ?_⟩
      · dsimp only
        rw [← List.drop_drop, g7, List.drop_drop]
      · dsimp only
        rw [filter_take hjl, hp, g8]; simp
    · have hby : b < ys.length := by omega
      simp (disch := omega) [-hset_if, -Bool.decide_and, hset_ne, hp, g9.sl.ix elemS100, hby]
      refine g9.store0 shp103 (by omega) (by omega) (at_ xs (j : Int)) (by simp) (by simp) (by simp) ?_
      intro H4 f1 f2
      simp (disch := omega) [-hset_if, -Bool.decide_and, hset_ne]
      refine Next.mk (j + 1, b + 1, ys.set b (at_ xs (j : Int))) (by first | omega | (dsimp only; omega)) (by simp (disch := omega) [-hset_if, -Bool.decide_and, hset_ne]) ⟨by omega, fun i hi hd => by rw [f1 i hd]; exact hfr i hi hd, by simpa using f2, (by dsimp only; rw [List.length_set]; exact g4), (by first | omega | (dsimp only; omega)), (by first | omega | (dsimp only; omega)), ?_, ?_⟩
      · dsimp only
        rw [List.drop_set_of_lt (by omega), ← List.drop_drop, g7, List.drop_drop]
      · dsimp only
        rw [filter_take hjl, hp, ← g8, List.take_succ_eq_append_getElem (by simpa using hby)]
        simp [List.take_set_of_le]
  · have hje : j = xs.length := by omega
    have hby : b ≤ ys.length := by omega
    simp (disch := omega) [-hset_if, -Bool.decide_and, hset_ne]
    refine g3.tail tk100 elemS100 hby ?_
    intro v' hv'
    simp (disch := omega) [-hset_if, -Bool.decide_and, hset_ne]
    refine g3.clear tk100 elemS100 zero103 (by simp) (by simp) hby hv' ?_
    intro H3 f1 f2
    simp (disch := omega) [-hset_if, -Bool.decide_and, hset_ne, g3.headEq tk100 elemS100 hby]
    refine Fin_id ?_
    refine hk _ _ _ g1 (fun i hi hd => by rw [f1 i hd]; exact g2 i hi hd) ?_
    rw [g8, hje, List.take_length] at f2
    exact f2
/-- slices.Clone of Ans. -/
theorem cloneAns_ok {v : Value} {D : Nat → Prop} {xs : List Ans} (hs : SlR ⟨Try.prog, w0⟩ H D 4 Ans.cells v xs) (hD : ∀ i, D i → i < n) (hone : ∀ x ∈ xs, oneAll (Ans.cells x) = true)
    (hb : xs.length * 40 ≤ 140737488355328) (hl : xs.length ≤ 140737488355328)
    (hk : ∀ v' n' H' E, n ≤ n' → (∀ i, i < n → H' i = H i) → (∀ i, E i → n ≤ i ∧ i < n') → OwR ⟨Try.prog, w0⟩ H' n' E 33 4 Ans.cells v' xs → K v' n' H') : ACall ⟨Try.prog, w0⟩ 43 [v] K n H := by
  refine ACall.run Try.func43 rfl Try.ntmps43 Try.results43 (by simp) fun J0 => ?_
  simp (disch := omega) [-hset_if, -Bool.decide_and, hset_ne, hs.eqNil tk67]
  refine cif_var (fun hv => ?_) (fun hv => ?_)
  · obtain ⟨rfl, rfl⟩ := hs.of_nil hv
    simp (disch := omega) [-hset_if, -Bool.decide_and, hset_ne]
    refine Fin_id ?_
    exact hk _ n H (fun _ => False) (Nat.le_refl _) (fun _ _ => rfl) (fun _ h => h.elim) (OwR.nil (by omega))
  · simp (disch := omega) [-hset_if, -Bool.decide_and, hset_ne]
    have ho := OwR.empty (C := ⟨Try.prog, w0⟩) (f := Ans.cells) (T := 33) (sz := 4) (n := n + 1) (j := n) (H := hset n (.cells [] 33 4) H) (by omega) (by omega) (hset_same _ _ _)
    have hs1 : SlR ⟨Try.prog, w0⟩ (hset n (.cells [] 33 4) H) D 4 Ans.cells v xs := hs.frame (fun i hi => hset_ne (by have := hD i hi; omega) _ _)
    refine ho.appendS elemS67 zero33 (by simp) hs1 hone (by simpa using hb) (by simpa using hl) ?_
    intro v' n' H' D' h1 h2 h3 h4 h5
    simp (disch := omega) [-hset_if, -Bool.decide_and, hset_ne]
    refine Fin_id ?_
    refine hk v' n' H' D' (by omega) (fun i hi => by rw [h3 i (by omega) (by omega), hset_ne (by omega)]) (fun i hi => ⟨?_, h5.lt i hi⟩) (by simpa using h5)
    rcases h4 i hi with h | h <;> omega
/-- The client's numbers. -/
structure Cl where
  pat : Int
  ret : Int
  boot : Int
  sent : Int
  opn : List Wt
  done : List Ans
def qts (P : List (Wt × Nat)) : List Qt := P.map fun p => ⟨p.2⟩
structure CliR (H : Heap) (w0 : World) (n S : Nat) (D : Nat → Prop) (c : Cl) (P : List (Wt × Nat)) (v u : Value) (E F : Nat → Prop) : Prop where
  self : H S = .cells [.int .i64 c.pat, .int .i64 c.ret, .int .i64 c.boot, .int .i64 c.sent, v, u] 102 1
  op : OwR ⟨Try.prog, w0⟩ H n E 103 1 Qt.cells v (qts P)
  dn : OwR ⟨Try.prog, w0⟩ H n F 33 4 Ans.cells u c.done
  pen : ∀ p ∈ P, H p.2 = .cells p.1.cells 105 1
  opn : c.opn = P.map Prod.fst
  nd : (P.map Prod.snd).Nodup
  d : ∀ i, D i ↔ i = S ∨ E i ∨ F i ∨ ∃ p ∈ P, i = p.2
  s : ¬ E S ∧ ¬ F S ∧ S < n ∧ ∀ p ∈ P, p.2 ≠ S ∧ p.2 < n ∧ ¬ E p.2 ∧ ¬ F p.2
  ef : ∀ i, E i → ¬ F i
theorem CliR.lt {S : Nat} {D E F : Nat → Prop} {c : Cl} {P : List (Wt × Nat)} {v u : Value} (h : CliR H w0 n S D c P v u E F) {i : Nat} (hi : D i) : i < n := by
  rcases (h.d i).1 hi with rfl | hi | hi | ⟨p, hp, rfl⟩
  · exact h.s.2.2.1
  · exact h.op.lt i hi
  · exact h.dn.lt i hi
  · exact (h.s.2.2.2 p hp).2.1
theorem CliR.frame {S : Nat} {D E F : Nat → Prop} {c : Cl} {P : List (Wt × Nat)} {v u : Value} (h : CliR H w0 n S D c P v u E F) {n' : Nat} {H' : Heap} (h1 : n ≤ n') (h2 : ∀ i, D i → H' i = H i) : CliR H' w0 n' S D c P v u E F :=
  ⟨by rw [h2 S ((h.d S).2 (.inl rfl))]; exact h.self, h.op.frame h1 (fun i hi => h2 i ((h.d i).2 (.inr (.inl hi)))), h.dn.frame h1 (fun i hi => h2 i ((h.d i).2 (.inr (.inr (.inl hi))))),
    fun p hp => by rw [h2 _ ((h.d _).2 (.inr (.inr (.inr ⟨p, hp, rfl⟩))))]; exact h.pen p hp, h.opn, h.nd, h.d, by obtain ⟨a, b, c, d⟩ := h.s; exact ⟨a, b, by omega, fun p hp => by have := d p hp; exact ⟨this.1, by omega, this.2.2⟩⟩, h.ef⟩
theorem sameF_ok {p q b : Nat} (hb : H b = .cells [.pointer (some ⟨new q, 0, none⟩)] 103 1) (hp : cellsO (H p) = true) (hq : cellsO (H q) = true) (hr : Res n H K (.bool (decide (p = q)))) : ACall ⟨Try.prog, w0⟩ 46 [.pointer (some ⟨new p, 0, none⟩), .pointer (some ⟨new b, 0, none⟩)] K n H := by
  refine ACall.run Try.func46 rfl Try.ntmps46 Try.results46 (by simp) fun J0 => ?_
  simp (disch := omega) [-hset_if, -Bool.decide_and, hset_ne, hb, hp, hq, ptrSz103]
  exact hr.fin (by simp) (by omega) (fun i hi => by simp (disch := omega) only [hset_ne])
theorem invF_ok {p b : Nat} {w : Wt} {a : Ans} (hb : H b = .cells a.cells 33 1) (hp : H p = .cells w.cells 105 1) (hr : Res n H K (.bool (w.inv == a.inv))) : ACall ⟨Try.prog, w0⟩ 39 [.pointer (some ⟨new p, 0, none⟩), .pointer (some ⟨new b, 0, none⟩)] K n H := by
  refine ACall.run Try.func39 rfl Try.ntmps39 Try.results39 (by simp) fun J0 => ?_
  simp (disch := omega) [-hset_if, -Bool.decide_and, hset_ne]
  refine AW.draw (X := ⟨_, 12, _, _⟩) (id := 1) mixed (.take 0 <| .take 1 <| .take 2 <| .take 3 <| .take 4 <| .take 5 <| .take 6 <| .take 7 <| .take 8 <| .done) (by kernel_rfl) ?_
  simp (disch := omega) [-hset_if, -Bool.decide_and, hset_ne, hb, hp]
  exact hr.fin (by simp) (by omega) (fun i hi => by simp (disch := omega) only [hset_ne])
/-- A pending request with its outcome. -/
def endC (c : Cl) (o : List Wt) (a : Ans) : Cl := { c with opn := o, done := c.done ++ [a] }
theorem qts_filter {P1 P2 : List (Wt × Nat)} {w : Wt} {q : Nat} (h : ((P1 ++ (w, q) :: P2).map Prod.snd).Nodup) : ((qts (P1 ++ (w, q) :: P2)).filter fun r => !decide (r.q = q)) = qts (P1 ++ P2) := by
  rw [List.map_append, List.map_cons, List.nodup_append, List.nodup_cons] at h
  obtain ⟨_, ⟨h1, _⟩, h2⟩ := h
  unfold qts
  rw [List.map_append, List.map_cons, List.filter_append, List.filter_cons_of_neg (by simp), List.map_append]
  congr 1
  · rw [List.filter_eq_self]
    intro r hr
    obtain ⟨p, hp, rfl⟩ := List.mem_map.1 hr
    have := h2 p.2 (List.mem_map_of_mem hp) q (by simp)
    simpa using this
  · rw [List.filter_eq_self]
    intro r hr
    obtain ⟨p, hp, rfl⟩ := List.mem_map.1 hr
    have : p.2 ≠ q := fun e => h1 (List.mem_map.2 ⟨p, hp, e⟩)
    simpa using this
theorem finish_ok {S : Nat} {D E F : Nat → Prop} {c : Cl} {P1 P2 : List (Wt × Nat)} {w : Wt} {q : Nat} {v u : Value} {a : Ans} (h : CliR H w0 n S D c (P1 ++ (w, q) :: P2) v u E F) (hl : (P1 ++ (w, q) :: P2).length ≤ 1000) (hl2 : c.done.length < 1000)
    (hk : ∀ n' H' D' v' u' E' F', n ≤ n' → (∀ i, i < n → ¬ D i → H' i = H i) → (∀ i, D' i → D i ∨ n ≤ i) → CliR H' w0 n' S D' (endC c ((P1 ++ P2).map Prod.fst) a) (P1 ++ P2) v' u' E' F' → K (.tuple #[]) n' H') :
    ACall ⟨Try.prog, w0⟩ 40 [.pointer (some ⟨new S, 0, none⟩), .pointer (some ⟨new q, 0, none⟩), .agg a.cells.toArray] K n H := by
  have hself := h.self
  obtain ⟨s1, s2, s3, s4⟩ := h.s
  have hEn := h.op.lt
  have hFn := h.dn.lt
  refine ACall.run Try.func40 rfl Try.ntmps40 Try.results40 (by simp) fun J0 => ?_
  simp (disch := omega) [-hset_if, -Bool.decide_and, hset_ne, hself]
  generalize hH0 : hset (n + 1) (.cells [.int .i64 a.boot, .int .i64 a.inv, .int .i64 a.code, .string a.data] 33 1) (hset n (.cells [.pointer (some ⟨new q, 0, none⟩)] 103 1) H) = H0
  have hb0 : H0 n = .cells [.pointer (some ⟨new q, 0, none⟩)] 103 1 := by rw [← hH0, hset_ne (by omega), hset_same]
  have hA0 : H0 (n + 1) = .cells a.cells 33 1 := by rw [← hH0, hset_same]; rfl
  have hfr0 : ∀ i, i < n → H0 i = H i := fun i hi => by rw [← hH0]; simp (disch := omega) only [hset_ne]
  clear hH0
  have h0 := h.frame (n' := n + 2) (H' := H0) (by omega) (fun i hi => hfr0 i (h.lt hi))
  have hEno : ∀ i, n ≤ i → ¬ E i := fun i hi e => by have := hEn i e; omega
  have hpp : ∀ p ∈ P1 ++ (w, q) :: P2, ∀ H' : Heap, (∀ i, i < n + 2 → ¬ E i → H' i = H0 i) → H' p.2 = .cells p.1.cells 105 1 := fun p hp H' hH' => by
    obtain ⟨_, a2, a3, _⟩ := s4 p hp
    rw [hH' _ (by omega) a3]; exact h0.pen p hp
  refine deleteQt_ok (p := fun r => decide (r.q = q)) h0.op (fun r hr n' H' K' e1 e2 e3 => ?_) (by simp [qts]; simp at hl; omega) (by kernel_rfl) ?_
  · obtain ⟨p, hp, rfl⟩ := List.mem_map.1 hr
    refine sameF_ok (q := q) ?_ ?_ ?_ (fun n'' H'' g1 g2 => e3 n'' H'' g1 g2)
    · rw [e2 n (by omega) (hEno n (by omega))]; exact hb0
    · rw [hpp p hp H' e2]; rfl
    · rw [hpp (w, q) (by simp) H' e2]; rfl
  intro v1 n1 H1 e1 e2 e3
  rw [qts_filter h.nd] at e3
  have hS1 : H1 S = .cells [.int .i64 c.pat, .int .i64 c.ret, .int .i64 c.boot, .int .i64 c.sent, v, u] 102 1 := by rw [e2 S (by omega) s1]; exact h0.self
  have hA1 : H1 (n + 1) = .cells a.cells 33 1 := by rw [e2 _ (by omega) (hEno _ (by omega))]; exact hA0
  have hd1 : OwR ⟨Try.prog, w0⟩ H1 n1 F 33 4 Ans.cells u c.done := h0.dn.frame e1 (fun i hi => e2 i (by have := hFn i hi; omega) (fun y => h.ef i y hi))
  simp (disch := omega) [-hset_if, -Bool.decide_and, hset_ne, hS1, e3.sl.cells, e3.sl.one]
  generalize hH2 : hset S _ H1 = H2
  have hS2 : H2 S = .cells [.int .i64 c.pat, .int .i64 c.ret, .int .i64 c.boot, .int .i64 c.sent, v1, u] 102 1 := by rw [← hH2, hset_same]
  have hfr2 : ∀ i, i ≠ S → H2 i = H1 i := fun i hi => by rw [← hH2, hset_ne hi]
  clear hH2
  have hA2 : H2 (n + 1) = .cells a.cells 33 1 := by rw [hfr2 _ (by omega)]; exact hA1
  have ho2 := e3.frame (Nat.le_refl _) (fun i hi => hfr2 i (fun y => s1 (y ▸ hi)))
  have hd2 := hd1.frame (Nat.le_refl _) (fun i hi => hfr2 i (fun y => s2 (y ▸ hi)))
  refine AW.draw (X := ⟨_, 25, _, _⟩) (id := 2) mixed (.take 0 <| .take 1 <| .take 2 <| .take 3 <| .take 4 <| .take 5 <| .each 6 [0, 1, 2, 3, 4] (.each 7 [0] (.take 8 <| .take 9 <| .each 10 [] (.done) <| .stop) <| .stop) <| .stop) (by kernel_rfl) ?_
  simp (disch := omega) [-hset_if, -Bool.decide_and, hset_ne, hS2, hA2]
  refine hd2.push elemS67 zero33 (by simp) a rfl rfl rfl (by omega) (by omega) ?_
  intro u3 n3 H3 F3 x1 x2 x3 x4 x5
  have hS3 : H3 S = .cells [.int .i64 c.pat, .int .i64 c.ret, .int .i64 c.boot, .int .i64 c.sent, v1, u] 102 1 := by rw [x3 S (by omega) s2]; exact hS2
  simp (disch := omega) [-hset_if, -Bool.decide_and, hset_ne, hS3, x5.sl.cells, x5.sl.one]
  refine Fin_id ?_
  have hF3 : ∀ i, F3 i → F i ∨ n1 < i := x4
  have hTF3 : ¬ F3 S := fun y => by rcases hF3 S y with z | z; exact s2 z; omega
  have hfr3 : ∀ i, i < n1 → i ≠ S → ¬ F i → hset S (.cells [.int .i64 c.pat, .int .i64 c.ret, .int .i64 c.boot, .int .i64 c.sent, v1, u3] 102 1) H3 i = H1 i := fun i hi hS hF => by rw [hset_ne hS, x3 i (by omega) hF, hfr2 i hS]
  have hDS := (h.d S).2 (.inl rfl)
  refine hk _ _ (fun i => i = S ∨ E i ∨ F3 i ∨ ∃ p ∈ P1 ++ P2, i = p.2) v1 u3 E F3 (by omega) (fun i hi hD => ?_) (fun i hi => ?_) ⟨?_, ?_, ?_, fun p hp => ?_, rfl, ?_, fun i => Iff.rfl, ⟨s1, hTF3, by omega, fun p hp => ?_⟩, fun i hi y => ?_⟩
  · rw [hfr3 i (by omega) (fun y => hD (y ▸ hDS)) (fun y => hD ((h.d i).2 (.inr (.inr (.inl y))))), e2 i (by omega) (fun y => hD ((h.d i).2 (.inr (.inl y)))), hfr0 i hi]
  · rcases hi with rfl | hi | hi | ⟨p, hp, rfl⟩
    · exact .inl hDS
    · exact .inl ((h.d i).2 (.inr (.inl hi)))
    · rcases hF3 i hi with z | z
      · exact .inl ((h.d i).2 (.inr (.inr (.inl z))))
      · exact .inr (by omega)
    · refine .inl ((h.d _).2 (.inr (.inr (.inr ⟨p, ?_, rfl⟩))))
      rcases List.mem_append.1 hp with hp | hp
      · exact List.mem_append_left _ hp
      · exact List.mem_append_right _ (List.mem_cons_of_mem _ hp)
  · rw [hset_same]; rfl
  · refine ho2.frame (by omega) (fun i hi => ?_)
    have := hEn i hi
    have : i ≠ S := fun y => s1 (y ▸ hi)
    rw [hset_ne this, x3 i (by omega) (h.ef i hi)]
  · exact x5.frame (Nat.le_refl _) (fun i hi => hset_ne (by rintro rfl; exact hTF3 hi) _ _)
  · have hp' : p ∈ P1 ++ (w, q) :: P2 := by
      rcases List.mem_append.1 hp with hp | hp
      · exact List.mem_append_left _ hp
      · exact List.mem_append_right _ (List.mem_cons_of_mem _ hp)
    obtain ⟨a1, a2, a3, a4⟩ := s4 p hp'
    rw [hfr3 p.2 (by omega) a1 a4]
    exact hpp p hp' H1 e2
  · have := h.nd
    rw [List.map_append, List.map_cons] at this
    rw [List.map_append]
    exact this.sublist (List.Sublist.append (List.Sublist.refl _) (List.sublist_cons_self _ _))
  · have hp' : p ∈ P1 ++ (w, q) :: P2 := by
      rcases List.mem_append.1 hp with hp | hp
      · exact List.mem_append_left _ hp
      · exact List.mem_append_right _ (List.mem_cons_of_mem _ hp)
    obtain ⟨a1, a2, a3, a4⟩ := s4 p hp'
    refine ⟨a1, by omega, a3, fun y => ?_⟩
    rcases hF3 _ y with z | z
    · exact a4 z
    · omega
  · rcases hF3 i y with z | z
    · exact h.ef i hi z
    · have := hEn i hi; omega
end Go.Aw.S50
