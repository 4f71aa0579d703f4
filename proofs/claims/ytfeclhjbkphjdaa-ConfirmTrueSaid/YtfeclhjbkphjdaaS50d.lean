/-
  Chapter 50: the server finishes a request; a new server.
-/
import Derived.Test.YtfeclhjbkphjdaaS50c
namespace Go.Aw.S50
open Go.RowKit Go.Proofs Go.Aw.Tab
set_option linter.unusedSimpArgs false
set_option linter.unusedVariables false
set_option maxRecDepth 10000
set_option maxHeartbeats 2000000
set_option pp.deepTerms false
set_option pp.deepTerms.threshold 4
set_option pp.maxSteps 1500
attribute [local simp] Ans.cells Ask.cells Opn.cells
variable {w0 : World} {n : Nat} {H : Heap} {K : Value → Nat → Heap → Prop}
/-- The least key. -/
def leastK (x : Int) (l : List (Int × Ans)) : Int := l.foldr (fun p m => min p.1 m) x
theorem leastK_spec (x : Int) : ∀ l : List (Int × Ans), leastK x l ≤ x ∧ (∀ p ∈ l, leastK x l ≤ p.1) ∧ (leastK x l = x ∨ ∃ p ∈ l, p.1 = leastK x l)
  | [] => ⟨Int.le_refl _, by simp, .inl rfl⟩
  | p :: l => by
    obtain ⟨h1, h2, h3⟩ := leastK_spec x l
    have e : leastK x (p :: l) = min p.1 (leastK x l) := rfl
    rw [e]
    refine ⟨by omega, fun q hq => ?_, ?_⟩
    · rcases List.mem_cons.1 hq with rfl | hq
      · omega
      · have := h2 q hq; omega
    · by_cases h : p.1 ≤ leastK x l
      · exact .inr ⟨p, List.mem_cons_self .., by omega⟩
      · rcases h3 with h3 | ⟨q, hq, h3⟩
        · exact .inl (by omega)
        · exact .inr ⟨q, List.mem_cons_of_mem _ hq, by omega⟩
theorem leastK_uniq {x y : Int} {l : List (Int × Ans)} (h1 : y ≤ x) (h2 : ∀ p ∈ l, y ≤ p.1) (h3 : y = x ∨ ∃ p ∈ l, p.1 = y) : leastK x l = y := by
  obtain ⟨g1, g2, g3⟩ := leastK_spec x l
  have a1 : y ≤ leastK x l := by
    rcases g3 with g3 | ⟨p, hp, g3⟩
    · omega
    · have := h2 p hp; omega
  have a2 : leastK x l ≤ y := by
    rcases h3 with h3 | ⟨p, hp, h3⟩
    · omega
    · have := g2 p hp; omega
  omega
/-- What is remembered of a client behind an answer. -/
def memP (limit i : Int) (a : Ans) (m : List (Int × Ans) × Int) : List (Int × Ans) × Int :=
  if limit < ((m.1 ++ [(i, a)]).length : Int) then ((m.1 ++ [(i, a)]).eraseP fun p => decide (leastK i (m.1 ++ [(i, a)]) = p.1), max m.2 (leastK i (m.1 ++ [(i, a)]))) else (m.1 ++ [(i, a)], m.2)
def finA (sv : Srv) (code : Int) (data : ByteArray) : Ans := ⟨sv.boot, sv.nowI, code, data⟩
/-- Rule 5: the answer, the error, the server behind it, and what it remembers of a client. -/
def finP (sv : Srv) (code : Int) (data : ByteArray) (m : Int → List (Int × Ans) × Int) : (Ans × Int) × Srv × (Int → List (Int × Ans) × Int) :=
  if sv.nowC = 0 ∧ sv.nowI = 0 then ((default, 8), sv, m)
  else if 400 < data.size ∨ code = 15 then ((default, 1), sv, m)
  else ((finA sv code data, 0), { sv with nowC := 0, nowI := 0, done := sv.done + 1 }, fun c => if c = sv.nowC then memP sv.limit sv.nowI (finA sv code data) (m c) else m c)
def fnV (r : Ans × Int) : Value := .tuple #[.agg r.1.cells.toArray, .int .i64 r.2]
theorem memOf_split {l1 l2 : List Ent} {e : Ent} (h : ∀ x ∈ l1, x.client ≠ e.client) (a : List (Int × Ans)) (f : Int) (c : Int) :
    memOf (l1 ++ { e with ans := a, floor := f } :: l2) c = if c = e.client then (a, f) else memOf (l1 ++ e :: l2) c := by
  unfold memOf
  by_cases hc : c = e.client
  · subst hc
    rw [if_pos rfl, List.find?_append, List.find?_eq_none.2 (fun x hx => by have := h x hx; simp; exact fun y => this y.symm)]
    simp
  · rw [if_neg hc, List.find?_append, List.find?_append, List.find?_cons, List.find?_cons]
    simp only [hc, decide_false]
/-- How far the search of the least key is. -/
structure MinInv (i : Int) (A : List (Int × Ans)) (cur : Int) (rest : List (Int × Value)) : Prop where
  c1 : cur = i ∨ ∃ p ∈ A, p.1 = cur
  c2 : cur ≤ i
  c3 : ∀ p ∈ A, ansV p ∈ rest ∨ cur ≤ p.1
theorem SvR.split {S M : Nat} {sv : Srv} {l1 l2 : List Ent} {e : Ent} (h : SvR H n S M sv (l1 ++ e :: l2)) : e.q ≠ e.a ∧ ∀ x, x ∈ l1 ∨ x ∈ l2 → x.q ≠ e.q ∧ x.q ≠ e.a ∧ x.a ≠ e.q ∧ x.a ≠ e.a := by
  have h1 := h.apart
  rw [List.nodup_cons, List.nodup_cons, List.flatMap_append, List.flatMap_cons] at h1
  obtain ⟨_, _, h2⟩ := h1
  rw [List.nodup_append] at h2
  obtain ⟨_, h3, h4⟩ := h2
  rw [List.nodup_append] at h3
  obtain ⟨h5, _, h6⟩ := h3
  refine ⟨fun x => by simp [x] at h5, fun x hx => ?_⟩
  rcases hx with hx | hx
  · have m1 : x.q ∈ l1.flatMap fun e => [e.q, e.a] := List.mem_flatMap.2 ⟨x, hx, by simp⟩
    have m2 : x.a ∈ l1.flatMap fun e => [e.q, e.a] := List.mem_flatMap.2 ⟨x, hx, by simp⟩
    exact ⟨h4 _ m1 _ (by simp), h4 _ m1 _ (by simp), h4 _ m2 _ (by simp), h4 _ m2 _ (by simp)⟩
  · have m1 : x.q ∈ l2.flatMap fun e => [e.q, e.a] := List.mem_flatMap.2 ⟨x, hx, by simp⟩
    have m2 : x.a ∈ l2.flatMap fun e => [e.q, e.a] := List.mem_flatMap.2 ⟨x, hx, by simp⟩
    exact ⟨fun y => h6 _ (by simp) _ m1 y.symm, fun y => h6 _ (by simp) _ m1 y.symm, fun y => h6 _ (by simp) _ m2 y.symm, fun y => h6 _ (by simp) _ m2 y.symm⟩
/-- An entry is changed. -/
theorem SvR.upd {S M : Nat} {sv sv' : Srv} {l1 l2 : List Ent} {e : Ent} (h : SvR H n S M sv (l1 ++ e :: l2)) {n' : Nat} {H' : Heap} {a : List (Int × Ans)} {f : Int} (hn : n ≤ n') (hfr : ∀ i, SvO S M (l1 ++ e :: l2) i → i ≠ S → i ≠ e.q → i ≠ e.a → H' i = H i)
    (h1 : H' S = .cells [.int .i64 sv'.boot, .int .i64 sv'.limit, .map (some (new M)), .int .i64 sv'.nowC, .int .i64 sv'.nowI, .int .i64 sv'.done] 86 1) (h2 : H' e.q = .cells [.map (some (new e.a)), .int .i64 f] 94 1) (h3 : MapG intK H' e.a (a.map ansV)) : SvR H' n' S M sv' (l1 ++ { e with ans := a, floor := f } :: l2) := by
  obtain ⟨o1, o2, o3, o4⟩ := h.objs
  obtain ⟨p1, p2⟩ := h.split
  have he := o4 e (by simp)
  have hx : ∀ x, x ∈ l1 ∨ x ∈ l2 → H' x.q = H x.q ∧ H' x.a = H x.a := fun x hx => by
    obtain ⟨q1, q2, q3, q4, q5, q6⟩ := o4 x (by simp; rcases hx with h | h; exact .inl h; exact .inr (.inr h))
    obtain ⟨r1, r2, r3, r4⟩ := p2 x hx
    have hm : x ∈ l1 ++ e :: l2 := by simp; rcases hx with h | h; exact .inl h; exact .inr (.inr h)
    exact ⟨hfr _ (.inr (.inr ⟨x, hm, .inl rfl⟩)) q3 r1 r2, hfr _ (.inr (.inr ⟨x, hm, .inr rfl⟩)) q4 r3 r4⟩
  refine ⟨h1, ?_, fun x hm => ?_, fun x hm => ?_, ?_, fun i hi => ?_⟩
  · have := h.map.frame (hfr M (.inr (.inl rfl)) o1.symm (fun y => he.1 y.symm) (fun y => he.2.1 y.symm))
    simpa [Ent.kv] using this
  · simp only [List.mem_append, List.mem_cons] at hm
    rcases hm with hm | rfl | hm
    · rw [(hx x (.inl hm)).1]; exact h.q x (by simp [hm])
    · exact h2
    · rw [(hx x (.inr hm)).1]; exact h.q x (by simp [hm])
  · simp only [List.mem_append, List.mem_cons] at hm
    rcases hm with hm | rfl | hm
    · exact (h.a x (by simp [hm])).frame (hx x (.inl hm)).2
    · exact h3
    · exact (h.a x (by simp [hm])).frame (hx x (.inr hm)).2
  · simpa using h.apart
  · have := h.lt i (by simpa using hi)
    omega
theorem Finish_ok {S M : Nat} {sv : Srv} {ms : List Ent} {code : Int} {data : ByteArray} (h : SvR H n S M sv ms) (hd : 0 ≤ sv.done ∧ sv.done < 1000) (hlen : (memOf ms sv.nowC).1.length < 1000)
    (hnew : ¬ (sv.nowC = 0 ∧ sv.nowI = 0) → ∀ p ∈ (memOf ms sv.nowC).1, p.1 ≠ sv.nowI)
    (hk : ∀ n' H' ms', n ≤ n' → (∀ i, i < n → ¬ SvO S M ms i → H' i = H i) → (∀ c', memOf ms' c' = (finP sv code data (memOf ms)).2.2 c') → (∀ i, SvO S M ms' i → SvO S M ms i ∨ n ≤ i) → SvR H' n' S M (finP sv code data (memOf ms)).2.1 ms' → K (fnV (finP sv code data (memOf ms)).1) n' H') :
    ACall ⟨Try.prog, w0⟩ 15 [.pointer (some ⟨new S, 0, none⟩), .int .i64 code, .string data] K n H := by
  have hself := h.self
  obtain ⟨o1, o2, o3, o4⟩ := h.objs
  unfold finP at hk
  refine ACall.run Try.func15 rfl Try.ntmps15 Try.results15 (by simp) fun J0 => ?_
  simp (disch := omega) [-hset_if, -Bool.decide_and, hset_ne, hself]
  refine cif_dec (fun b1 => ?_) (fun b1 => ?_)
  · rw [if_pos b1] at hk
    simp (disch := omega) [-hset_if, -Bool.decide_and, hset_ne]
    refine Fin_id ?_
    exact hk _ _ ms (by omega) (fun i hi _ => by simp (disch := omega) only [hset_ne]) (fun _ => rfl) (fun i h => .inl h) (h.frame (by omega) (fun i hi => by simp (disch := omega) only [hset_ne]))
  rw [if_neg b1] at hk
  replace hnew := hnew b1
  simp (disch := omega) [-hset_if, -Bool.decide_and, hset_ne]
  refine gif_dec (fun b2 => ?_) (fun b2 => ?_)
  · rw [if_pos (.inl (by omega))] at hk
    simp (disch := omega) [-hset_if, -Bool.decide_and, hset_ne]
    refine Fin_id ?_
    exact hk _ _ ms (by omega) (fun i hi _ => by simp (disch := omega) only [hset_ne]) (fun _ => rfl) (fun i h => .inl h) (h.frame (by omega) (fun i hi => by simp (disch := omega) only [hset_ne]))
  simp (disch := omega) [-hset_if, -Bool.decide_and, hset_ne]
  refine cif_beq (fun b3 => ?_) (fun b3 => ?_)
  · rw [if_pos (.inr b3)] at hk
    simp (disch := omega) [-hset_if, -Bool.decide_and, hset_ne]
    refine Fin_id ?_
    exact hk _ _ ms (by omega) (fun i hi _ => by simp (disch := omega) only [hset_ne]) (fun _ => rfl) (fun i h => .inl h) (h.frame (by omega) (fun i hi => by simp (disch := omega) only [hset_ne]))
  rw [if_neg (by omega)] at hk
  simp (disch := omega) [-hset_if, -Bool.decide_and, hset_ne]
  refine AW.draw (X := ⟨_, 103, _, _⟩) (id := 5) mixed (.take 0 <| .take 1 <| .take 2 <| .take 3 <| .take 4 <| .take 5 <| .take 6 <| .take 7 <| .take 8 <| .take 9 <| .take 10 <| .take 11 <| .each 12 [0, 1, 2, 3, 4, 5, 6, 7, 8, 9, 10, 11] (.each 13 [] (.done) <| .stop) <| .stop) (by kernel_rfl) ?_
  simp (disch := omega) [-hset_if, -Bool.decide_and, hset_ne, hself]
  refine of2_ok (h.frame (n' := n + 2) (by omega) (fun i hi => by rw [hset_ne (by omega), hset_ne (by omega)])) ?_
  intro n1 H1 ms1 e f1 f2 f3 f4 f5 f6 f7
  have hm : memOf ms sv.nowC = (e.ans, e.floor) := by rw [← f6 sv.nowC]; unfold memOf; rw [f5]
  rw [hm] at hnew hlen
  dsimp only at hnew hlen
  obtain ⟨hce, l1, l2, rfl, hl1⟩ := List.find?_eq_some_iff_append.1 f5
  have hce : sv.nowC = e.client := by simpa using hce
  have hl1 : ∀ x ∈ l1, x.client ≠ e.client := fun x hx y => by have := hl1 x hx; simp [hce, y] at this
  obtain ⟨u1, u2, u3, u4⟩ := f3.objs
  obtain ⟨yqa, ysp⟩ := f3.split
  obtain ⟨y1, y2, y3, y4, y5, y6⟩ := u4 e f4
  have hyn : e.q ≠ n ∧ e.q ≠ n + 1 ∧ e.a ≠ n ∧ e.a ≠ n + 1 := by
    rcases f7 e f4 with v | v
    · have := (o4 e v).2.2.2.2
      omega
    · omega
  have hq := f3.q e f4
  have hm1 := f3.a e f4
  have hS1 := f3.self
  have hRs : H1 n = .cells [.int .i64 0, .int .i64 0, .int .i64 0, .string ⟨#[]⟩] 33 1 := by rw [f2 _ (by omega) (by omega), hset_ne (by omega), hset_same]
  have hA : H1 (n + 1) = .cells (finA sv code data).cells 33 1 := by rw [f2 _ (by omega) (by omega), hset_same]; rfl
  unfold finA at hA
  simp (disch := omega) [-hset_if, -Bool.decide_and, hset_ne]
  refine AW.draw (X := ⟨_, 103, _, _⟩) (id := 7) mixed (.take 0 <| .take 1 <| .take 2 <| .take 3 <| .take 4 <| .take 5 <| .take 6 <| .each 7 [] (.done) <| .stop) (by kernel_rfl) ?_
  simp (disch := omega) [-hset_if, -Bool.decide_and, hset_ne, hq, hA]
  refine MapG.add (f := intK) (x := sv.nowI) hm1 keyI (fun p hp => ?_) mapT92 keysI ?_
  · obtain ⟨r, hr, rfl⟩ := List.mem_map.1 hp
    exact hnew r hr
  intro o hmo
  simp (disch := omega) [-hset_if, -Bool.decide_and, hset_ne, hS1]
  refine AW.draw (X := ⟨_, 103, _, _⟩) (id := 10) mixed (.take 0 <| .take 1 <| .take 2 <| .take 3 <| .take 5 <| .take 6 <| .take 7 <| .take 8 <| .each 4 [0, 1, 2, 3, 5, 6, 7, 8] (.take 9 <| .done) <| .stop) (by kernel_rfl) ?_
  simp (disch := omega) [-hset_if, -Bool.decide_and, hset_ne, hq]
  have hval : ansV (sv.nowI, finA sv code data) = (sv.nowI, .agg (finA sv code data).cells.toArray) := rfl
  have hmo : MapG intK (hset e.a o H1) e.a ((e.ans ++ [(sv.nowI, finA sv code data)]).map ansV) := by rw [List.map_append]; exact hmo
  generalize hA1 : e.ans ++ [(sv.nowI, finA sv code data)] = A1 at hmo hk
  have hl1' : A1.length < 1001 := by rw [← hA1]; simp; omega
  have hln : lenO o = some (A1.length : Int) := by
    have := hmo.len
    rw [lenHK_new, hset_same] at this
    simpa using this
  simp (disch := omega) [-hset_if, -Bool.decide_and, hset_ne, hq, hS1, hln]
  have key : ∀ n' H' A F, n1 ≤ n' → memP sv.limit sv.nowI (finA sv code data) (e.ans, e.floor) = (A, F) → (∀ i, i < n1 → i ≠ S → i ≠ e.q → i ≠ e.a → i ≠ n → i ≠ n + 1 → H' i = H1 i) →
      H' S = .cells [.int .i64 sv.boot, .int .i64 sv.limit, .map (some (new M)), .int .i64 0, .int .i64 0, .int .i64 (sv.done + 1)] 86 1 → H' e.q = .cells [.map (some (new e.a)), .int .i64 F] 94 1 → MapG intK H' e.a (A.map ansV) → K (fnV (finA sv code data, 0)) n' H' := by
    intro n' H' A F g1 g2 g3 g4 g5 g6
    have hso : ∀ i, SvO S M (l1 ++ e :: l2) i → SvO S M ms i ∨ n + 2 ≤ i := fun i hi => SvO.new f7 (Nat.le_refl _) hi
    have hsn : ∀ i, SvO S M (l1 ++ e :: l2) i → i < n ∨ n + 2 ≤ i := fun i hi => by
      rcases hso i hi with v | v
      · rcases v with rfl | rfl | ⟨x, hx, v⟩
        · exact .inl o2
        · exact .inl o3
        · have := (o4 x hx).2.2.2.2
          exact .inl (by rcases v with rfl | rfl <;> omega)
      · exact .inr v
    have hsm : ∀ i, SvO S M (l1 ++ e :: l2) i → i < n1 := fun i hi => by
      rcases hi with rfl | rfl | ⟨x, hx, v⟩
      · exact u2
      · exact u3
      · have := (u4 x hx).2.2.2.2
        rcases v with rfl | rfl <;> omega
    refine hk n' H' (l1 ++ { e with ans := A, floor := F } :: l2) (by omega) (fun i hi hno => ?_) (fun c' => ?_) (fun i hi => ?_) (f3.upd (by omega) (fun i hi e1 e2 e3 => ?_) g4 g5 g6)
    · have n1' : i ≠ M := fun y => hno (y ▸ .inr (.inl rfl))
      have n2' : ∀ j, SvO S M (l1 ++ e :: l2) j → i ≠ j := fun j hj y => by
        rcases hso j hj with v | v
        · exact hno (y ▸ v)
        · omega
      rw [g3 i (by omega) (n2' _ (.inl rfl)) (n2' _ (.inr (.inr ⟨e, f4, .inl rfl⟩))) (n2' _ (.inr (.inr ⟨e, f4, .inr rfl⟩))) (by omega) (by omega), f2 i (by omega) n1', hset_ne (by omega), hset_ne (by omega)]
    · rw [memOf_split hl1, ← hce]
      dsimp only
      by_cases hc : c' = sv.nowC
      · subst hc
        rw [if_pos rfl, if_pos rfl, hm, g2]
      · rw [if_neg hc, if_neg hc]
        exact f6 c'
    · have : SvO S M (l1 ++ e :: l2) i := by
        rcases hi with v | v | ⟨x, hx, v⟩
        · exact .inl v
        · exact .inr (.inl v)
        · simp only [List.mem_append, List.mem_cons] at hx
          rcases hx with hx | rfl | hx
          · exact .inr (.inr ⟨x, by simp [hx], v⟩)
          · exact .inr (.inr ⟨e, by simp, v⟩)
          · exact .inr (.inr ⟨x, by simp [hx], v⟩)
      rcases hso i this with v | v
      · exact .inl v
      · exact .inr (by omega)
    · have := hsn i hi
      have := hsm i hi
      exact g3 i (by omega) e1 e2 e3 (by omega) (by omega)
  refine cif_dec (fun b4 => ?_) (fun b4 => ?_)
  rotate_left
  · simp (disch := omega) [-hset_if, -Bool.decide_and, hset_ne, hA, hRs]
    refine Fin_id ?_
    refine key _ _ A1 e.floor (by omega) ?_ (fun i hi e1 e2 e3 e4 e5 => by simp (disch := omega) only [hset_ne]) (by simp (disch := omega) [-hset_if, -Bool.decide_and, hset_ne]) (by simp (disch := omega) [-hset_if, -Bool.decide_and, hset_ne, hq]) (hmo.frame (by simp (disch := omega) [-hset_if, -Bool.decide_and, hset_ne]))
    unfold memP
    dsimp only
    rw [hA1, if_neg (by omega)]
  · simp (disch := omega) [-hset_if, -Bool.decide_and, hset_ne, hA, hq]
    refine (hmo.frame (H' := hset S _ (hset e.a o H1)) (by rw [hset_ne y4])).range mapT92 ?_
    intro it hit
    simp (disch := omega) [-hset_if, -Bool.decide_and, hset_ne]
    refine AW.while (σ := Int × List (Int × Value)) (fun s => s.2.length) (fun s => [(6, .pointer (some ⟨new n, 0, none⟩)), (8, .pointer (some ⟨new (n + 1), 0, none⟩)), (9, .pointer (some ⟨new e.q, 0, none⟩)), (10, .int .i64 s.1), (80, .pointer (some ⟨new n1, 0, none⟩))])
      (fun s n2 H2 => n2 = n1 + 1 ∧ (∀ i, i ≠ n1 → i ≠ S → i ≠ e.a → H2 i = H1 i) ∧ H2 S = .cells [.int .i64 sv.boot, .int .i64 sv.limit, .map (some (new M)), .int .i64 0, .int .i64 0, .int .i64 (sv.done + 1)] 86 1 ∧ RngG intK H2 n1 e.a (A1.map ansV) s.2 ∧ MinInv sv.nowI A1 s.1 s.2) (sv.nowI, A1.map ansV) ?_ ?_ ?_
    · simp (disch := omega) [-hset_if, -Bool.decide_and, hset_ne]
    · refine ⟨rfl, fun i e1 e2 e3 => by simp (disch := omega) only [hset_ne], by simp (disch := omega) [-hset_if, -Bool.decide_and, hset_ne], hit _ _ (by simp (disch := omega) [-hset_if, -Bool.decide_and, hset_ne]) (by simp (disch := omega) [-hset_if, -Bool.decide_and, hset_ne]), .inl rfl, Int.le_refl _, fun p hp => .inl (List.mem_map_of_mem hp)⟩
    rintro ⟨cur, rest⟩ n2 H2 ⟨rfl, g2, g3, g4, ⟨g5, g6, g7⟩⟩
    dsimp only at g4 g5 g6 g7 ⊢
    have hq2 : H2 e.q = .cells [.map (some (new e.a)), .int .i64 e.floor] 94 1 := by rw [g2 _ (by omega) y3 yqa]; exact hq
    have hA2 : H2 (n + 1) = .cells (finA sv code data).cells 33 1 := by rw [g2 _ (by omega) (by omega) (by omega)]; exact hA
    have hR2 : H2 n = .cells [.int .i64 0, .int .i64 0, .int .i64 0, .string ⟨#[]⟩] 33 1 := by rw [g2 _ (by omega) (by omega) (by omega)]; exact hRs
    simp (disch := omega) [-hset_if, -Bool.decide_and, hset_ne]
    refine g4.next (by omega) (fun hr => ?_) (fun r1 p r2 o2 hr g8 hen => ?_)
    · subst hr
      have hmin : leastK sv.nowI A1 = cur := leastK_uniq g6 (fun p hp => by rcases g7 p hp with h | h; simp at h; exact h) g5
      simp (disch := omega) [-hset_if, -Bool.decide_and, hset_ne, hq2]
      refine MapG.del (f := intK) (x := cur) g4.map keyI mapT92 keysI ?_
      intro o3 hdel
      have hdel : MapG intK (hset e.a o3 H2) e.a ((A1.eraseP fun p => decide (cur = p.1)).map ansV) := by
        rw [List.eraseP_map] at hdel
        exact hdel
      simp (disch := omega) [-hset_if, -Bool.decide_and, hset_ne, hq2, hA2, hR2]
      unfold finA
      simp (disch := omega) [-hset_if, -Bool.decide_and, hset_ne]
      refine Fin_id ?_
      refine key _ _ (A1.eraseP fun p => decide (cur = p.1)) (max e.floor cur) (by omega) ?_ (fun i hi e1 e2 e3 e4 e5 => ?_) ?_ ?_ (hdel.frame ?_)
      · unfold memP
        dsimp only
        rw [hA1, if_pos (by omega), hmin]
      · simp (disch := omega) only [hset_ne]
        exact g2 i (by omega) e1 e3
      · simp (disch := omega) only [hset_ne]
        exact g3
      · simp (disch := omega) [-hset_if, -Bool.decide_and, hset_ne]
        unfold mxI
        split <;> omega
      · simp (disch := omega) [-hset_if, -Bool.decide_and, hset_ne]
    · simp (disch := omega) [-hset_if, -Bool.decide_and, hset_ne]
      refine hen _ ?_
      unfold intK
      simp (disch := omega) [-hset_if, -Bool.decide_and, hset_ne]
      have hmn : mnI cur p.1 = min cur p.1 := by
        unfold mnI
        split <;> omega
      rw [hmn]
      have hrs : ∀ q ∈ rest, q ∈ A1.map ansV := g4.sub keyI
      have hp := hrs p (by rw [hr]; simp)
      obtain ⟨p0, hp0, hp1⟩ := List.mem_map.1 hp
      have hp2 : p0.1 = p.1 := congrArg Prod.fst hp1
      refine Next.mk (min cur p.1, r1 ++ r2) (by rw [hr]; simp) (by simp (disch := omega) [-hset_if, -Bool.decide_and, hset_ne]) ⟨rfl, fun i e1 e2 e3 => by rw [hset_ne e1]; exact g2 i e1 e2 e3, by rw [hset_ne (by omega)]; exact g3, g8, ⟨?_, by dsimp only; omega, fun q hq' => ?_⟩⟩
      · dsimp only
        by_cases hc : cur ≤ p.1
        · rw [Int.min_eq_left hc]; exact g5
        · rw [Int.min_eq_right (by omega)]; exact .inr ⟨p0, hp0, hp2⟩
      · dsimp only
        rcases g7 q hq' with v | v
        · rw [hr] at v
          simp only [List.mem_append, List.mem_cons] at v
          rcases v with v | v | v
          · exact .inl (by simp [v])
          · have : q.1 = p.1 := congrArg Prod.fst v
            exact .inr (by omega)
          · exact .inl (by simp [v])
        · exact .inr (by omega)
end Go.Aw.S50
