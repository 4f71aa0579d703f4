/-
  Chapter 50: the server handles a request.
-/
import Derived.Test.YtfeclhjbkphjdaaS50b
namespace Go.Aw.S50
open Go.RowKit Go.Proofs Go.Aw.Tab
set_option linter.unusedSimpArgs false
set_option linter.unusedVariables false
set_option maxRecDepth 10000
set_option maxHeartbeats 1000000
set_option pp.deepTerms false
set_option pp.deepTerms.threshold 4
set_option pp.maxSteps 1500
attribute [local simp] Ans.cells Ask.cells Opn.cells
variable {w0 : World} {n : Nat} {H : Heap} {K : Value → Nat → Heap → Prop}
theorem mixed : Try.prog.follows .mixedOrders = true := by kernel_rfl
theorem SvR.frame {S M : Nat} {sv : Srv} {ms : List Ent} (h : SvR H n S M sv ms) {n' : Nat} {H' : Heap} (h1 : n ≤ n') (h2 : ∀ i, i < n → H' i = H i) : SvR H' n' S M sv ms := by
  obtain ⟨o1, o2, o3, o4⟩ := h.objs
  refine ⟨by rw [h2 S o2]; exact h.self, h.map.frame (h2 M o3), fun e he => by rw [h2 _ (o4 e he).2.2.2.2.1]; exact h.q e he, fun e he => (h.a e he).frame (h2 _ (o4 e he).2.2.2.2.2), h.apart, fun i hi => by have := h.lt i hi; omega⟩
theorem SvR.frameO {S M : Nat} {sv : Srv} {ms : List Ent} (h : SvR H n S M sv ms) {n' : Nat} {H' : Heap} (h1 : n ≤ n') (h2 : H' S = H S) (h3 : H' M = H M) (h4 : ∀ e ∈ ms, H' e.q = H e.q ∧ H' e.a = H e.a) : SvR H' n' S M sv ms :=
  ⟨by rw [h2]; exact h.self, h.map.frame h3, fun e he => by rw [(h4 e he).1]; exact h.q e he, fun e he => (h.a e he).frame (h4 e he).2, h.apart, fun i hi => by have := h.lt i hi; omega⟩
/-- The server's objects. -/
def SvO (S M : Nat) (ms : List Ent) (i : Nat) : Prop := i = S ∨ i = M ∨ ∃ e ∈ ms, i = e.q ∨ i = e.a
theorem SvO.new {S M n m : Nat} {ms ms' : List Ent} (h : ∀ e ∈ ms', e ∈ ms ∨ m ≤ e.q ∧ m ≤ e.a) (hm : n ≤ m) {i : Nat} (hi : SvO S M ms' i) : SvO S M ms i ∨ n ≤ i := by
  rcases hi with hi | hi | ⟨e, he, hi⟩
  · exact .inl (.inl hi)
  · exact .inl (.inr (.inl hi))
  · rcases h e he with g | g
    · exact .inl (.inr (.inr ⟨e, g, hi⟩))
    · exact .inr (by rcases hi with rfl | rfl <;> omega)
theorem refuse_ok {S M B A : Nat} {sv : Srv} {ms : List Ent} {a : Ask} {e : Int} (h : SvR H n S M sv ms) (hB : H B = .cells [.pointer (some ⟨new S, 0, none⟩)] 25 1) (hBn : B < n) (hA : H A = .cells a.cells 35 1) (hAn : A < n)
    (hk : K (.tuple #[.agg (Ans.mk sv.boot a.inv e ⟨#[]⟩).cells.toArray, .bool false, .int .i64 0]) n H) : ACall ⟨Try.prog, w0⟩ 35 [.int .i64 e, .pointer (some ⟨new B, 0, none⟩), .pointer (some ⟨new A, 0, none⟩)] K n H := by
  refine ACall.res (fun K' hr => ?_) (und_tuple (by simp; exact und_agg (by simp))) hk
  have hself := h.self
  obtain ⟨o1, o2, o3, o4⟩ := h.objs
  refine ACall.run Try.func35 rfl Try.ntmps35 Try.results35 (by simp) fun J0 => ?_
  simp (disch := omega) [-hset_if, -Bool.decide_and, hset_ne]
  refine AW.draw (X := ⟨_, 15, _, _⟩) (id := 1) mixed (.take 0 <| .take 1 <| .take 2 <| .take 3 <| .take 4 <| .take 5 <| .take 6 <| .take 7 <| .each 8 [] (.take 9 <| .take 10 <| .done) <| .stop) (by kernel_rfl) ?_
  simp (disch := omega) [-hset_if, -Bool.decide_and, hset_ne, hB, hA, hself]
  exact hr.fin rfl (by omega) (fun i hi => by simp (disch := omega) only [hset_ne])
/-- What is remembered of a client: the answers, the floor. -/
def memOf (ms : List Ent) (c : Int) : List (Int × Ans) × Int := match ms.find? (fun e => decide (c = e.client)) with
  | some e => (e.ans, e.floor)
  | none => ([], 0)
theorem of2_ok {S M : Nat} {sv : Srv} {ms : List Ent} {c : Int} (h : SvR H n S M sv ms)
    (hk : ∀ n' H' ms' e, n ≤ n' → (∀ i, i < n → i ≠ M → H' i = H i) → SvR H' n' S M sv ms' → e ∈ ms' → ms'.find? (fun e => decide (c = e.client)) = some e → (∀ c', memOf ms' c' = memOf ms c') → (∀ e ∈ ms', e ∈ ms ∨ n ≤ e.q ∧ n ≤ e.a) → K (.pointer (some ⟨new e.q, 0, none⟩)) n' H') : ACall ⟨Try.prog, w0⟩ 36 [.pointer (some ⟨new S, 0, none⟩), .int .i64 c] K n H := by
  refine of_ok h (fun e he hc hu => ?_) (fun hno H' h1 h2 => ?_)
  · cases hf : ms.find? fun e => decide (c = e.client) with
    | none => have := List.find?_eq_none.1 hf e he; simp [hc] at this
    | some e' =>
      obtain rfl := hu e' hf
      exact hk n H ms e' (Nat.le_refl _) (fun _ _ _ => rfl) h he hf (fun _ => rfl) (fun _ h => .inl h)
  · have hf : ms.find? (fun e => decide (c = e.client)) = none := List.find?_eq_none.2 fun e he => by
      have := hno e he
      simp; exact fun x => this x.symm
    refine hk (n + 2) H' _ ⟨c, [], 0, n + 1, n⟩ (by omega) h1 h2 (by simp) (by rw [List.find?_append, hf]; simp) (fun c' => ?_) (fun e he => ?_)
    rotate_left
    · rcases List.mem_append.1 he with he | he
      · exact .inl he
      · simp only [List.mem_cons, List.not_mem_nil, or_false] at he
        subst he
        exact .inr ⟨by dsimp only; omega, Nat.le_refl _⟩
    unfold memOf
    rw [List.find?_append]
    cases hg : ms.find? fun e => decide (c' = e.client) with
    | some e => rfl
    | none =>
      by_cases hc : c' = c
      · subst hc; simp
      · simp [hc]
/-- Rule 4: the answer, whether it has to be executed, the error, and the server behind it. -/
def handleP (sv : Srv) (m : List (Int × Ans) × Int) (c : Int) (a : Ask) : (Ans × Bool × Int) × Srv :=
  if ¬ (1 ≤ c ∧ c ≤ 127) ∨ ¬ (1 ≤ a.inv ∧ a.inv ≤ 1000000000) ∨ 400 < a.data.size then ((default, false, 1), sv)
  else if a.boot ≠ sv.boot then ((⟨sv.boot, a.inv, 15, ⟨#[]⟩⟩, false, 0), sv)
  else match m.1.find? (fun p => decide (a.inv = p.1)) with
    | some p => ((p.2, false, 0), sv)
    | none => if a.inv ≤ m.2 then ((⟨sv.boot, a.inv, 5, ⟨#[]⟩⟩, false, 0), sv)
      else if ¬ (sv.nowC = 0 ∧ sv.nowI = 0) then ((default, false, 8), sv)
      else ((default, true, 0), { sv with nowC := c, nowI := a.inv })
def hdV (r : Ans × Bool × Int) : Value := .tuple #[.agg r.1.cells.toArray, .bool r.2.1, .int .i64 r.2.2]
theorem Handle_ok {S M : Nat} {sv : Srv} {ms : List Ent} {c : Int} {a : Ask} (h : SvR H n S M sv ms)
    (hk : ∀ n' H' ms', n ≤ n' → (∀ i, i < n → i ≠ S → i ≠ M → H' i = H i) → (∀ c', memOf ms' c' = memOf ms c') → (∀ i, SvO S M ms' i → SvO S M ms i ∨ n ≤ i) → SvR H' n' S M (handleP sv (memOf ms c) c a).2 ms' → K (hdV (handleP sv (memOf ms c) c a).1) n' H') :
    ACall ⟨Try.prog, w0⟩ 13 [.pointer (some ⟨new S, 0, none⟩), .int .i64 c, .agg a.cells.toArray] K n H := by
  have hself := h.self
  obtain ⟨o1, o2, o3, o4⟩ := h.objs
  have bad : ¬ (1 ≤ c ∧ c ≤ 127) ∨ ¬ (1 ≤ a.inv ∧ a.inv ≤ 1000000000) ∨ 400 < a.data.size → ∀ n' H', n ≤ n' → (∀ i, i < n → H' i = H i) → K (.tuple #[.agg #[.int .i64 0, .int .i64 0, .int .i64 0, .string ⟨#[]⟩], .bool false, .int .i64 1]) n' H' := fun hb n' H' h1 h2 => by
    have := hk n' H' ms h1 (fun i hi _ _ => h2 i hi) (fun _ => rfl) (fun i h => .inl h)
    unfold handleP at this
    rw [if_pos hb] at this
    exact this (h.frame h1 h2)
  refine ACall.run Try.func13 rfl Try.ntmps13 Try.results13 (by simp) fun J0 => ?_
  simp (disch := omega) [-hset_if, -Bool.decide_and, hset_ne]
  refine gif_dec (fun b1 => ?_) (fun b1 => ?_)
  · simp (disch := omega) [-hset_if, -Bool.decide_and, hset_ne]
    refine Fin_id ?_
    exact bad (by omega) _ _ (by omega) (fun i hi => by simp (disch := omega) only [hset_ne])
  simp (disch := omega) [-hset_if, -Bool.decide_and, hset_ne]
  refine gif_dec (fun b2 => ?_) (fun b2 => ?_)
  · simp (disch := omega) [-hset_if, -Bool.decide_and, hset_ne]
    refine Fin_id ?_
    exact bad (by omega) _ _ (by omega) (fun i hi => by simp (disch := omega) only [hset_ne])
  simp (disch := omega) [-hset_if, -Bool.decide_and, hset_ne]
  refine gif_dec (fun b3 => ?_) (fun b3 => ?_)
  · simp (disch := omega) [-hset_if, -Bool.decide_and, hset_ne]
    refine Fin_id ?_
    exact bad (by omega) _ _ (by omega) (fun i hi => by simp (disch := omega) only [hset_ne])
  simp (disch := omega) [-hset_if, -Bool.decide_and, hset_ne]
  refine gif_dec (fun b4 => ?_) (fun b4 => ?_)
  · simp (disch := omega) [-hset_if, -Bool.decide_and, hset_ne]
    refine Fin_id ?_
    exact bad (by omega) _ _ (by omega) (fun i hi => by simp (disch := omega) only [hset_ne])
  simp (disch := omega) [-hset_if, -Bool.decide_and, hset_ne]
  refine cif_dec (fun b5 => ?_) (fun b5 => ?_)
  · simp (disch := omega) [-hset_if, -Bool.decide_and, hset_ne]
    refine Fin_id ?_
    exact bad (by omega) _ _ (by omega) (fun i hi => by simp (disch := omega) only [hset_ne])
  simp (disch := omega) [-hset_if, -Bool.decide_and, hset_ne]
  have hn0 : ¬ (¬ (1 ≤ c ∧ c ≤ 127) ∨ ¬ (1 ≤ a.inv ∧ a.inv ≤ 1000000000) ∨ 400 < a.data.size) := by omega
  unfold handleP at hk
  simp only [if_neg hn0] at hk
  have hfr : ∀ o o' o2 i, i < n → hset (n + 2) o2 (hset (n + 1) o' (hset n o H)) i = H i := fun o o' o2 i hi => by rw [hset_ne (by omega), hset_ne (by omega), hset_ne (by omega)]
  have hG := fun o o' o2 => h.frame (n' := n + 3) (by omega) (hfr o o' o2)
  refine AW.draw (X := ⟨_, 91, _, _⟩) (id := 4) mixed (.take 0 <| .take 1 <| .take 2 <| .take 3 <| .take 4 <| .take 5 <| .take 6 <| .done) (by kernel_rfl) ?_
  simp (disch := omega) [-hset_if, -Bool.decide_and, hset_ne, hself]
  refine cif_bne (fun c1 => ?_) (fun c1 => ?_)
  rotate_left
  · simp only [if_pos c1] at hk
    simp (disch := omega) [-hset_if, -Bool.decide_and, hset_ne]
    refine refuse_ok (sv := sv) (a := a) (hG _ _ _) (B := n) (A := n + 1) ?_ (by omega) ?_ (by omega) ?_
    · simp (disch := omega) [-hset_if, -Bool.decide_and, hset_ne]
    · simp (disch := omega) [-hset_if, -Bool.decide_and, hset_ne]
    simp (disch := omega) [-hset_if, -Bool.decide_and, hset_ne]
    refine Fin_id ?_
    exact hk _ _ ms (by omega) (fun i hi _ _ => by simp (disch := omega) only [hset_ne]) (fun _ => rfl) (fun i h => .inl h) (h.frame (by omega) (fun i hi => by simp (disch := omega) only [hset_ne]))
  simp only [if_neg (show ¬ a.boot ≠ sv.boot by simp [c1])] at hk
  simp (disch := omega) [-hset_if, -Bool.decide_and, hset_ne]
  refine of2_ok (hG _ _ _) ?_
  intro n1 H1 ms1 e f1 f2 f3 f4 f5 f6 f7
  have hm : memOf ms c = (e.ans, e.floor) := by rw [← f6 c]; unfold memOf; rw [f5]
  rw [hm] at hk
  dsimp only at hk
  simp (disch := omega) [-hset_if, -Bool.decide_and, hset_ne]
  refine AW.draw (X := ⟨_, 91, _, _⟩) (id := 7) mixed (.take 0 <| .take 1 <| .take 2 <| .take 3 <| .take 4 <| .take 5 <| .each 6 [] (.take 7 <| .take 8 <| .take 9 <| .each 10 [7, 8, 9] (.each 11 [9] (.take 12 <| .done) <| .stop) <| .stop) <| .each 10 [0, 1, 2, 3, 4, 5] (.each 6 [] (.take 7 <| .take 8 <| .take 9 <| .each 11 [9] (.take 12 <| .done) <| .stop) <| .stop) <| .stop) (by kernel_rfl) ?_
  have hq := f3.q e f4
  have hA : H1 (n + 1) = .cells a.cells 35 1 := by rw [f2 _ (by omega) (by omega), hset_ne (by omega), hset_same]; rfl
  simp (disch := omega) [-hset_if, -Bool.decide_and, hset_ne, hq, hA]
  have hfind : (e.ans.map ansV).find? (fun p => decide (a.inv = p.1)) = (e.ans.find? fun p => decide (a.inv = p.1)).map ansV := by rw [List.find?_map]; rfl
  have hfrn : ∀ i, i < n → i ≠ M → H1 i = H i := fun i hi hne => by rw [f2 i (by omega) hne]; simp (disch := omega) only [hset_ne]
  obtain ⟨u1, u2, u3, u4⟩ := f3.objs
  obtain ⟨y1, y2, y3, y4, y5, y6⟩ := u4 e f4
  have hRs : H1 (n + 2) = .cells [.int .i64 0, .int .i64 0, .int .i64 0, .string ⟨#[]⟩] 33 1 := by rw [f2 _ (by omega) (by omega), hset_same]
  have hB1 : H1 n = .cells [.pointer (some ⟨new S, 0, none⟩)] 25 1 := by rw [f2 _ (by omega) (by omega), hset_ne (by omega), hset_ne (by omega), hset_same]
  have hS1 := f3.self
  have hob : ∀ e ∈ ms1, (e.q < n ∨ n + 3 ≤ e.q) ∧ (e.a < n ∨ n + 3 ≤ e.a) ∧ e.q < n1 ∧ e.a < n1 := fun e he => by
    have v1 := (u4 e he).2.2.2.2
    rcases f7 e he with v | v
    · have := (o4 e v).2.2.2.2
      omega
    · omega
  refine ⟨?_, ?_, ?_⟩
  · refine (MapG.look (C := ⟨Try.prog, w0⟩) (f := intK) (x := a.inv) (ok := true) (f3.a e f4) keyI mapT92 zeroV33 keysI).mpr ?_
    rw [hfind]
    cases hf : e.ans.find? fun p => decide (a.inv = p.1) with
    | some p =>
      rw [hf] at hk
      dsimp only at hk
      simp only [Option.map_some, lkG, ansV, if_true]
      simp (disch := omega) [-hset_if, -Bool.decide_and, hset_ne, hRs]
      refine Fin_id ?_
      exact hk _ _ ms1 (by omega) (fun i hi h1 h2 => by rw [hset_ne (by omega), hset_ne (by omega)]; exact hfrn i hi h2) f6 (fun i hi => SvO.new f7 (by omega) hi) (f3.frameO (by omega) (by rw [hset_ne (by omega), hset_ne (by omega)]) (by rw [hset_ne (by omega), hset_ne (by omega)]) (fun e he => by have := hob e he; exact ⟨by rw [hset_ne (by omega), hset_ne (by omega)], by rw [hset_ne (by omega), hset_ne (by omega)]⟩))
    | none =>
      rw [hf] at hk
      dsimp only at hk
      simp only [Option.map_none, lkG, if_true]
      simp (disch := omega) [-hset_if, -Bool.decide_and, hset_ne]
      refine AW.draw (X := ⟨_, 91, _, _⟩) (id := 10) mixed (.take 0 <| .take 1 <| .take 2 <| .take 3 <| .take 4 <| .take 5 <| .take 6 <| .done) (by kernel_rfl) ?_
      simp (disch := omega) [-hset_if, -Bool.decide_and, hset_ne, hA, hq]
      refine cif_dec (fun d1 => ?_) (fun d1 => ?_)
      · simp only [if_pos d1] at hk
        simp (disch := omega) [-hset_if, -Bool.decide_and, hset_ne]
        refine refuse_ok (sv := sv) (a := a) (f3.frame (n' := n1 + 1) (by omega) (fun i hi => by rw [hset_ne (by omega)])) (B := n) (A := n + 1) (by rw [hset_ne (by omega)]; exact hB1) (by omega) (by rw [hset_ne (by omega)]; exact hA) (by omega) ?_
        simp (disch := omega) [-hset_if, -Bool.decide_and, hset_ne, hRs]
        refine Fin_id ?_
        exact hk _ _ ms1 (by omega) (fun i hi h1 h2 => by rw [hset_ne (by omega), hset_ne (by omega)]; exact hfrn i hi h2) f6 (fun i hi => SvO.new f7 (by omega) hi) (f3.frameO (by omega) (by rw [hset_ne (by omega), hset_ne (by omega)]) (by rw [hset_ne (by omega), hset_ne (by omega)]) (fun e he => by have := hob e he; exact ⟨by rw [hset_ne (by omega), hset_ne (by omega)], by rw [hset_ne (by omega), hset_ne (by omega)]⟩))
      · simp only [if_neg d1] at hk
        simp (disch := omega) [-hset_if, -Bool.decide_and, hset_ne, hB1, hS1]
        refine cif_dec (fun d2 => ?_) (fun d2 => ?_)
        · simp only [if_neg (show ¬ ¬ (sv.nowC = 0 ∧ sv.nowI = 0) from fun x => x d2)] at hk
          simp (disch := omega) [-hset_if, -Bool.decide_and, hset_ne, hB1, hS1, hA, hRs]
          refine Fin_id ?_
          refine hk _ _ ms1 (by omega) (fun i hi h1 h2 => by rw [hset_ne (by omega), hset_ne (by omega), hset_ne (by omega)]; exact hfrn i hi h2) f6 (fun i hi => SvO.new f7 (by omega) hi) ⟨?_, ?_, fun e he => ?_, fun e he => ?_, f3.apart, fun i hi => by have := f3.lt i hi; omega⟩
          · rw [hset_ne (by omega), hset_same]
          · exact f3.map.frame (by rw [hset_ne (by omega), hset_ne (by omega), hset_ne (by omega)])
          · have := hob e he
            have v1 := (u4 e he).2.2.1
            rw [hset_ne (by omega), hset_ne (by omega), hset_ne (by omega)]; exact f3.q e he
          · have := hob e he
            have v1 := (u4 e he).2.2.2.1
            exact (f3.a e he).frame (by rw [hset_ne (by omega), hset_ne (by omega), hset_ne (by omega)])
        · simp only [if_pos d2] at hk
          simp (disch := omega) [-hset_if, -Bool.decide_and, hset_ne, hRs]
          refine Fin_id ?_
          exact hk _ _ ms1 (by omega) (fun i hi h1 h2 => by rw [hset_ne (by omega), hset_ne (by omega)]; exact hfrn i hi h2) f6 (fun i hi => SvO.new f7 (by omega) hi) (f3.frameO (by omega) (by rw [hset_ne (by omega), hset_ne (by omega)]) (by rw [hset_ne (by omega), hset_ne (by omega)]) (fun e he => by have := hob e he; exact ⟨by rw [hset_ne (by omega), hset_ne (by omega)], by rw [hset_ne (by omega), hset_ne (by omega)]⟩))
  · rw [hset_ne (by omega), hq]; rfl
  · refine (MapG.look (C := ⟨Try.prog, w0⟩) (f := intK) (x := a.inv) (ok := true) ((f3.a e f4).frame (by rw [hset_ne (by omega)])) keyI mapT92 zeroV33 keysI).mpr ?_
    rw [hfind]
    cases hf : e.ans.find? fun p => decide (a.inv = p.1) with
    | some p =>
      rw [hf] at hk
      dsimp only at hk
      simp only [Option.map_some, lkG, ansV, if_true]
      simp (disch := omega) [-hset_if, -Bool.decide_and, hset_ne, hRs]
      refine Fin_id ?_
      exact hk _ _ ms1 (by omega) (fun i hi h1 h2 => by rw [hset_ne (by omega), hset_ne (by omega)]; exact hfrn i hi h2) f6 (fun i hi => SvO.new f7 (by omega) hi) (f3.frameO (by omega) (by rw [hset_ne (by omega), hset_ne (by omega)]) (by rw [hset_ne (by omega), hset_ne (by omega)]) (fun e he => by have := hob e he; exact ⟨by rw [hset_ne (by omega), hset_ne (by omega)], by rw [hset_ne (by omega), hset_ne (by omega)]⟩))
    | none =>
      rw [hf] at hk
      dsimp only at hk
      simp only [Option.map_none, lkG, if_true]
      simp (disch := omega) [-hset_if, -Bool.decide_and, hset_ne]
      refine AW.draw (X := ⟨_, 91, _, _⟩) (id := 10) mixed (.take 0 <| .take 1 <| .take 2 <| .take 3 <| .take 4 <| .take 5 <| .take 6 <| .done) (by kernel_rfl) ?_
      simp (disch := omega) [-hset_if, -Bool.decide_and, hset_ne, hA, hq]
      refine cif_dec (fun d1 => ?_) (fun d1 => ?_)
      · simp only [if_pos d1] at hk
        simp (disch := omega) [-hset_if, -Bool.decide_and, hset_ne]
        refine refuse_ok (sv := sv) (a := a) (f3.frame (n' := n1 + 1) (by omega) (fun i hi => by rw [hset_ne (by omega)])) (B := n) (A := n + 1) (by rw [hset_ne (by omega)]; exact hB1) (by omega) (by rw [hset_ne (by omega)]; exact hA) (by omega) ?_
        simp (disch := omega) [-hset_if, -Bool.decide_and, hset_ne, hRs]
        refine Fin_id ?_
        exact hk _ _ ms1 (by omega) (fun i hi h1 h2 => by rw [hset_ne (by omega), hset_ne (by omega)]; exact hfrn i hi h2) f6 (fun i hi => SvO.new f7 (by omega) hi) (f3.frameO (by omega) (by rw [hset_ne (by omega), hset_ne (by omega)]) (by rw [hset_ne (by omega), hset_ne (by omega)]) (fun e he => by have := hob e he; exact ⟨by rw [hset_ne (by omega), hset_ne (by omega)], by rw [hset_ne (by omega), hset_ne (by omega)]⟩))
      · simp only [if_neg d1] at hk
        simp (disch := omega) [-hset_if, -Bool.decide_and, hset_ne, hB1, hS1]
        refine cif_dec (fun d2 => ?_) (fun d2 => ?_)
        · simp only [if_neg (show ¬ ¬ (sv.nowC = 0 ∧ sv.nowI = 0) from fun x => x d2)] at hk
          simp (disch := omega) [-hset_if, -Bool.decide_and, hset_ne, hB1, hS1, hA, hRs]
          refine Fin_id ?_
          refine hk _ _ ms1 (by omega) (fun i hi h1 h2 => by rw [hset_ne (by omega), hset_ne (by omega), hset_ne (by omega)]; exact hfrn i hi h2) f6 (fun i hi => SvO.new f7 (by omega) hi) ⟨?_, ?_, fun e he => ?_, fun e he => ?_, f3.apart, fun i hi => by have := f3.lt i hi; omega⟩
          · rw [hset_ne (by omega), hset_same]
          · exact f3.map.frame (by rw [hset_ne (by omega), hset_ne (by omega), hset_ne (by omega)])
          · have := hob e he
            have v1 := (u4 e he).2.2.1
            rw [hset_ne (by omega), hset_ne (by omega), hset_ne (by omega)]; exact f3.q e he
          · have := hob e he
            have v1 := (u4 e he).2.2.2.1
            exact (f3.a e he).frame (by rw [hset_ne (by omega), hset_ne (by omega), hset_ne (by omega)])
        · simp only [if_pos d2] at hk
          simp (disch := omega) [-hset_if, -Bool.decide_and, hset_ne, hRs]
          refine Fin_id ?_
          exact hk _ _ ms1 (by omega) (fun i hi h1 h2 => by rw [hset_ne (by omega), hset_ne (by omega)]; exact hfrn i hi h2) f6 (fun i hi => SvO.new f7 (by omega) hi) (f3.frameO (by omega) (by rw [hset_ne (by omega), hset_ne (by omega)]) (by rw [hset_ne (by omega), hset_ne (by omega)]) (fun e he => by have := hob e he; exact ⟨by rw [hset_ne (by omega), hset_ne (by omega)], by rw [hset_ne (by omega), hset_ne (by omega)]⟩))
end Go.Aw.S50
