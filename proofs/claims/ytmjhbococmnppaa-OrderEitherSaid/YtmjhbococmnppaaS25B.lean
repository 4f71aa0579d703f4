/-
  Chapter 25: slices.Sort, slices.Compact.
-/
import Derived.Test.YtmjhbococmnppaaS25A
import Derived.Test.YtmjhbococmnppaaS25sh
import Derived.Test.YtmjhbococmnppaaAw16
namespace Go.Aw.S25
open Go.RowKit Go.Proofs Go.Aw.Tab
set_option linter.unusedSimpArgs false
set_option linter.unusedVariables false
set_option maxRecDepth 10000
set_option maxHeartbeats 1000000
set_option pp.deepTerms false
set_option pp.deepTerms.threshold 4
set_option pp.maxSteps 1500
attribute [local simp] Lk.cells Nd.cells Dr.cells Pg.val intC
variable {w0 : World} {n : Nat} {H : Heap} {K : Value → Nat → Heap → Prop} {p : Pg} {D E : Nat → Prop}
def sortI (xs : List Int) : List Int := xs.mergeSort fun x y => decide (x ≤ y)
theorem sortI_len (xs : List Int) : (sortI xs).length = xs.length := List.length_mergeSort _
theorem sort_ok {E : Nat → Prop} {v : Value} {xs : List Int} (ho : OwR ⟨Try.prog, w0⟩ H n E 3 1 intC v xs) (hl : xs.length < 4611686018427387904)
    (hk : ∀ H', (∀ i, ¬ E i → H' i = H i) → OwR ⟨Try.prog, w0⟩ H' n E 3 1 intC v (sortI xs) → K (.tuple #[]) n H') : ACall ⟨Try.prog, w0⟩ 51 [v] K n H := by
  refine ACall.sorted (α := Int) (g := intC) (enc := Value.int .i64) (h := id) (h' := id) (fun _ => by rfl) sortI sortI_len (fun blk cap zs w h1 h2 h3 => Try.slices_Sort_int blk 0 cap zs w h1 h2 h3) (fun w => ?_) (by simp [sortI]) (fun y => rfl) (fun _ => rfl) ho hl ?_
  · refine (Try.slices_Sort_int_none none 0 w).mono ?_
    rintro e w' ⟨h1, h2⟩
    exact ⟨h1, 0, #[], by rw [h2, Sort.grow_empty]; rfl⟩
  · simpa using hk
/-- Equal neighbours once. -/
def compI : List Int → List Int
  | [] => []
  | [x] => [x]
  | x :: y :: r => if x = y then compI (y :: r) else x :: compI (y :: r)
theorem compI_snoc (x y : Int) : ∀ l : List Int, compI (l ++ [x, y]) = if x = y then compI (l ++ [x]) else compI (l ++ [x]) ++ [y]
  | [] => by by_cases h : x = y <;> simp [compI, h]
  | [a] => by
    by_cases h : x = y <;> by_cases h2 : a = x <;> simp [compI, h, h2]
    all_goals (try subst h2); simp_all [compI]
  | a :: b :: l => by
    have ih := compI_snoc x y (b :: l)
    simp only [List.cons_append, compI] at ih ⊢
    rw [ih]
    by_cases h : x = y <;> by_cases h2 : a = b <;> simp [h, h2]
theorem compI_next {xs : List Int} {m : Nat} (h : m + 1 < xs.length) : compI (xs.take (m + 2)) = if at_ xs (m : Int) = at_ xs ((m + 1 : Nat) : Int) then compI (xs.take (m + 1)) else compI (xs.take (m + 1)) ++ [at_ xs ((m + 1 : Nat) : Int)] := by
  rw [take_next (j := m + 1) h, take_next (j := m) (by omega), List.append_assoc]
  exact compI_snoc _ _ _
theorem IsTail.sl {α : Type} {C : Ctx} {T sz : Nat} {f : α → List Value} {v v' : Value} {ys : List α} {j : Nat} (h : OwR C H n D T sz f v ys) (ht : IsTail sz v j v') (hj : j < ys.length) : SlR C H D sz f v' (ys.drop j) := by
  obtain ⟨A0, l0, c0, hv, ht⟩ := ht
  obtain ⟨A, c, rfl, h1, h2, h3, h4⟩ := h.sl.shape
  simp only [Value.slice.injEq] at hv
  obtain ⟨rfl, rfl, rfl⟩ := hv
  have hl : (ys.drop j).length = ys.length - j := by simp
  rcases ht with ⟨rfl, rfl⟩ | rfl | ⟨e, _⟩
  · rw [List.drop_zero]; exact h.sl
  · refine ⟨h.pos, fun x hx => h.flen x (List.mem_of_mem_drop hx), A.map fun a => a.add (j * sz), c - j, by rw [hl], by omega, fun hne => ?_, fun hn => ?_, fun a ha => ?_⟩
    · have := h2 (fun e => hne (by simp [e]))
      simpa using this
    · have := h3 (by simpa using hn); omega
    · obtain ⟨a', rfl, rfl⟩ := Option.map_eq_some_iff.1 ha
      obtain ⟨g1, g2⟩ := h4 a' rfl
      refine ⟨by rw [add_block]; exact g1, fun i hi => ?_⟩
      rw [Addr.add_add, ← Nat.add_mul, g2 (j + i) (by rw [hl] at hi; omega)]
      simp
  · omega
theorem at_drop {α : Type} [Inhabited α] {xs : List α} {j i : Nat} (h : j + i < xs.length) : at_ (xs.drop j) (i : Int) = at_ xs ((j + i : Nat) : Int) := by
  rw [at_nat (by simp; omega), at_nat h, List.getElem_drop]
theorem at_of_drop {α : Type} [Inhabited α] {xs ys : List α} {j i : Nat} (h : ys.drop j = xs.drop j) (h1 : j + i < ys.length) (h2 : j + i < xs.length) : at_ ys ((j + i : Nat) : Int) = at_ xs ((j + i : Nat) : Int) := by
  rw [← at_drop h1, h, at_drop h2]
structure CpI (H2 : Heap) (w0 : World) (n : Nat) (E : Nat → Prop) (v : Value) (xs : List Int) (m : Nat) (s : Nat × Nat × List Int) : Prop where
  l2 : OwR ⟨Try.prog, w0⟩ H2 n E 3 1 intC v s.2.2
  l3 : s.2.2.length = xs.length
  l4 : s.2.1 ≤ m + 1 + s.1
  l5 : m + 1 + s.1 < xs.length
  l6 : s.2.2.drop (m + 1 + s.1) = xs.drop (m + 1 + s.1)
  l7 : s.2.2.take s.2.1 = compI (xs.take (m + 2 + s.1))
theorem Compact_ok {v : Value} {xs : List Int} (hs : OwR ⟨Try.prog, w0⟩ H n E 3 1 intC v xs) (hb : xs.length < 4611686018427387904)
    (hk : ∀ v' H', (∀ i, ¬ E i → H' i = H i) → OwR ⟨Try.prog, w0⟩ H' n E 3 1 intC v' (compI xs) → K v' n H') : ACall ⟨Try.prog, w0⟩ 52 [v] K n H := by
  refine ACall.run Try.func52 rfl Try.ntmps52 Try.results52 (by simp) fun J0 => ?_
  simp (disch := omega) [-hset_if, -Bool.decide_and, hset_ne, hs.sl.lenK]
  refine cif_dec (fun c0 => ?_) (fun c0 => ?_)
  · simp (disch := omega) [-hset_if, -Bool.decide_and, hset_ne]
    refine Fin_id ?_
    refine hk _ _ (fun _ _ => rfl) ?_
    have e : compI xs = xs := by
      match xs, c0 with
      | [], _ => rfl
      | [x], _ => rfl
      | x :: y :: r, h => simp at h; omega
    rw [e]; exact hs
  simp (disch := omega) [-hset_if, -Bool.decide_and, hset_ne]
  refine AW.while (σ := Nat) (fun m => xs.length - m) (fun m => [(0, v), (3, .int .i64 ((m : Int) + 1))])
    (fun m n2 H2 => n = n2 ∧ H = H2 ∧ m + 1 ≤ xs.length ∧ compI (xs.take (m + 1)) = xs.take (m + 1)) 0 ?_ ?_ ?_
  · simp (disch := omega) [-hset_if, -Bool.decide_and, hset_ne]
  · refine ⟨rfl, rfl, by omega, ?_⟩
    rw [take_next (by omega)]
    rfl
  rintro m _ _ ⟨rfl, rfl, g1, g2⟩
  simp (disch := omega) [-hset_if, -Bool.decide_and, hset_ne, hs.sl.lenK]
  refine cif_dec (fun c1 => ?_) (fun c1 => ?_)
  · have hm1 : m + 1 < xs.length := by omega
    have hnx := compI_next hm1
    have em : ((m : Int) + 1) = ((m + 1 : Nat) : Int) := by omega
    simp (disch := omega) [-hset_if, -Bool.decide_and, hset_ne]
    refine AW.draw (X := ⟨_, 61, _, _⟩) (id := 6) mixed (.take 0 <| .take 1 <| .take 2 <| .take 3 <| .take 4 <| .take 5 <| .take 6 <| .take 7 <| .take 8 <| .take 9 <| .done) (by kernel_rfl) ?_
    simp (disch := omega) [-hset_if, -Bool.decide_and, hset_ne, hs.sl.ix elemS35, hs.sl.load0 shp3]
    refine cif_beq (fun c2 => ?_) (fun c2 => ?_)
    · rw [em] at c2
      rw [if_pos c2.symm, g2] at hnx
      simp (disch := omega) [-hset_if, -Bool.decide_and, hset_ne]
      rw [em]
      refine hs.tail tk35 elemS35 (j := m + 1) (by omega) ?_
      intro v' hv'
      simp (disch := omega) [-hset_if, -Bool.decide_and, hset_ne]
      refine AW.while (σ := Nat × Nat × List Int) (fun s => xs.length - s.1) (fun s => [(0, v), (4, v'), (3, .int .i64 (s.2.1 : Int)), (5, .int .i64 ((s.1 : Int) + 1))])
        (fun s n2 H2 => n = n2 ∧ (∀ i, ¬ E i → H2 i = H i) ∧ CpI H2 w0 n E v xs m s) (0, m + 1, xs) ?_ ?_ ?_
      · simp (disch := omega) [-hset_if, -Bool.decide_and, hset_ne]
      · exact ⟨rfl, fun _ _ => rfl, ⟨hs, rfl, by dsimp only; omega, by dsimp only; omega, rfl, by dsimp only; rw [Nat.add_zero, hnx]⟩⟩
      clear hnx c2
      rintro ⟨i, b, ys⟩ _ H2 ⟨rfl, l1, ⟨l2, l3, l4, l5, l6, l7⟩⟩
      dsimp only at l2 l3 l4 l5 l6 l7 ⊢
      have hv2 := IsTail.sl l2 hv' (by omega)
      have hdl : (ys.drop (m + 1)).length = xs.length - (m + 1) := by rw [List.length_drop, l3]
      simp (disch := omega) [-hset_if, -Bool.decide_and, hset_ne, hv2.lenK, hdl]
      refine cif_dec (fun c3 => ?_) (fun c3 => ?_)
      · have hi : m + 2 + i < xs.length := by omega
        have hnx := compI_next (xs := xs) (m := m + 1 + i) (by omega)
        obtain ⟨a1, e1⟩ : ∃ a, at_ xs ((m + 1 + i : Nat) : Int) = a := ⟨_, rfl⟩
        obtain ⟨a2, e2⟩ : ∃ a, at_ xs ((m + 1 + i + 1 : Nat) : Int) = a := ⟨_, rfl⟩
        have ha1 : at_ (ys.drop (m + 1)) (i : Int) = a1 := by
          rw [at_drop (by omega), ← e1]
          exact at_of_drop (j := m + 1 + i) (i := 0) l6 (by omega) (by omega)
        have ha2 : at_ (ys.drop (m + 1)) ((i : Int) + 1) = a2 := by
          rw [show ((i : Int) + 1) = ((i + 1 : Nat) : Int) by omega, at_drop (by omega), ← e2]
          exact at_of_drop (j := m + 1 + i) (i := 1) l6 (by omega) (by omega)
        rw [e1, e2] at hnx
        have hd2 : ys.drop (m + 1 + (i + 1)) = xs.drop (m + 1 + (i + 1)) := by rw [← Nat.add_assoc, ← List.drop_drop, l6, List.drop_drop]
        simp (disch := omega) [-hset_if, -Bool.decide_and, hset_ne]
        refine AW.draw (X := ⟨_, 61, _, _⟩) (id := 11) mixed (.take 0 <| .take 1 <| .take 2 <| .take 3 <| .take 4 <| .take 5 <| .take 6 <| .take 7 <| .take 8 <| .take 9 <| .done) (by kernel_rfl) ?_
        simp (disch := omega) [-hset_if, -Bool.decide_and, hset_ne, hv2.ix elemS35, hv2.load0 shp3, hdl, ha1, ha2]
        refine cif_bne (fun c4 => ?_) (fun c4 => ?_)
        · rw [if_pos c4.symm] at hnx
          simp (disch := omega) [-hset_if, -Bool.decide_and, hset_ne]
          exact Next.mk (i + 1, b, ys) (by first | omega | (dsimp only; omega)) (by simp (disch := omega) [-hset_if, -Bool.decide_and, hset_ne]) ⟨rfl, l1, ⟨l2, l3, (by first | omega | (dsimp only; omega)), (by first | omega | (dsimp only; omega)), hd2, by dsimp only; rw [l7, show m + 2 + (i + 1) = m + 1 + i + 2 by omega, hnx]; congr 2; omega⟩⟩
        · rw [if_neg (fun e => c4 e.symm)] at hnx
          simp (disch := omega) [-hset_if, -Bool.decide_and, hset_ne, hv2.ix elemS35, hv2.load0 shp3, hdl, ha2, l2.sl.ix elemS35, l3]
          refine l2.store0 shp3 (by omega) (by omega) a2 (by simp) (by simp) (by simp) ?_
          intro H4 f1 f2
          simp (disch := omega) [-hset_if, -Bool.decide_and, hset_ne]
          refine Next.mk (i + 1, b + 1, ys.set b a2) (by first | omega | (dsimp only; omega)) (by simp (disch := omega) [-hset_if, -Bool.decide_and, hset_ne]) ⟨rfl, fun x hx => by rw [f1 x hx, l1 x hx], ⟨by simpa using f2, (by dsimp only; rw [List.length_set]; exact l3), (by first | omega | (dsimp only; omega)), (by first | omega | (dsimp only; omega)), ?_, ?_⟩⟩
          · dsimp only
            rw [List.drop_set_of_lt (by omega), hd2]
          · dsimp only
            rw [show m + 2 + (i + 1) = m + 1 + i + 2 by omega, hnx, show m + 1 + i + 1 = m + 2 + i by omega, ← l7, List.take_succ_eq_append_getElem (by simp; omega)]
            simp [List.take_set_of_le]
      · have hi : m + 2 + i = xs.length := by omega
        have hby : b ≤ ys.length := by omega
        simp (disch := omega) [-hset_if, -Bool.decide_and, hset_ne]
        refine l2.tail tk35 elemS35 hby ?_
        intro v2 hv3
        simp (disch := omega) [-hset_if, -Bool.decide_and, hset_ne]
        refine l2.clear tk35 elemS35 zero3 (by simp) (by simp) hby hv3 ?_
        intro H3 f1 f2
        simp (disch := omega) [-hset_if, -Bool.decide_and, hset_ne, l2.headEq tk35 elemS35 hby]
        refine Fin_id ?_
        refine hk _ _ (fun x hx => by rw [f1 x hx, l1 x hx]) ?_
        rw [l7, hi, List.take_length] at f2
        exact f2
    · rw [em] at c2
      rw [if_neg (fun e => c2 e.symm), g2] at hnx
      simp (disch := omega) [-hset_if, -Bool.decide_and, hset_ne]
      exact Next.mk (m + 1) (by first | omega | (dsimp only; omega)) (by simp (disch := omega) [-hset_if, -Bool.decide_and, hset_ne]) ⟨rfl, rfl, by omega, by rw [hnx, take_next (j := m + 1) hm1]⟩
  · simp (disch := omega) [-hset_if, -Bool.decide_and, hset_ne]
    refine Fin_id ?_
    refine hk _ _ (fun _ _ => rfl) ?_
    rw [List.take_of_length_le (by omega)] at g2
    rw [g2]; exact hs
end Go.Aw.S25
/-
  Chapter 25: the index of a program's nodes; links.
-/
namespace Go.Aw.S25
open Go.RowKit Go.Proofs Go.Aw.Tab
set_option linter.unusedSimpArgs false
set_option linter.unusedVariables false
set_option maxRecDepth 10000
set_option maxHeartbeats 1000000
set_option pp.deepTerms false
set_option pp.deepTerms.threshold 4
set_option pp.maxSteps 1500
attribute [local simp] Lk.cells Nd.cells Dr.cells Pg.val intC
variable {w0 : World} {n : Nat} {H : Heap} {K : Value → Nat → Heap → Prop} {p : Pg} {D E : Nat → Prop}
def strK (s : ByteArray) : Value := .string s
theorem strI (a b : ByteArray) : keyIs (strK a) (strK b) = decide (a = b) := by simp [strK]
theorem strOk {x : ByteArray} (es : List MapEntry) (h : ∀ e ∈ es, ∃ b, e.key = strK b) : KeysOk Try.prog 9 (strK x) es := KeysOk.string prim9 h
/-- The index of the nodes, from k on. -/
def idxV : List Nd → Nat → List (ByteArray × Value)
  | [], _ => []
  | d :: r, k => (d.name, .int .i64 (k : Int)) :: idxV r (k + 1)
theorem idxV_snoc (d : Nd) : ∀ (l : List Nd) (k : Nat), idxV (l ++ [d]) k = idxV l k ++ [(d.name, .int .i64 ((k + l.length : Nat) : Int))]
  | [], k => rfl
  | e :: r, k => by
    simp only [List.cons_append, idxV, idxV_snoc d r (k + 1), List.length_cons]
    rw [show k + 1 + r.length = k + (r.length + 1) by omega]
/-- The index of a node, or 0. -/
def posP (l : List Nd) (s : ByteArray) : Int := if findP l s < 0 then 0 else findP l s
theorem idxV_find (s : ByteArray) : ∀ (l : List Nd) (k : Nat), (idxV l k).find? (fun q => decide (s = q.1)) = if findP l s < 0 then none else some (s, .int .i64 ((k : Int) + findP l s))
  | [], k => by simp [idxV, findP, fidx]
  | d :: r, k => by
    have ih := idxV_find s r (k + 1)
    have hge := fidx_ge (fun d : Nd => decide (d.name = s)) r
    unfold findP at ih ⊢
    simp only [idxV, List.find?_cons, fidx]
    by_cases h : d.name = s
    · simp [h]
    · have h' : ¬ s = d.name := fun e => h e.symm
      simp only [h, h', decide_false, Bool.false_eq_true, if_false]
      rw [ih]
      by_cases h2 : fidx (fun d : Nd => decide (d.name = s)) r < 0
      · simp [h2]
      · have h3 : ¬ fidx (fun d : Nd => decide (d.name = s)) r + 1 < 0 := by omega
        simp [h2, h3]
        omega
theorem lk_idx (l : List Nd) (s : ByteArray) : lkG false (.int .i64 0) ((idxV l 0).find? fun q => decide (s = q.1)) = .int .i64 (posP l s) := by
  rw [idxV_find]
  unfold posP
  split <;> simp [lkG]
theorem lk_idx2 (l : List Nd) (s : ByteArray) : lkG true (.int .i64 0) ((idxV l 0).find? fun q => decide (s = q.1)) = .tuple #[.int .i64 (posP l s), .bool (decide (0 ≤ findP l s))] := by
  rw [idxV_find]
  unfold posP
  by_cases h : findP l s < 0
  · rw [if_pos h, if_pos h, decide_eq_false (by omega)]; rfl
  · rw [if_neg h, if_neg h, decide_eq_true (by omega)]; simp [lkG]
def lkB (del : Bool) (x : Lk) : Bool := !(decide (x.node = ⟨#[]⟩)) && (del || !x.del)
def rawP (l : List Nd) (del : Bool) (ks : List Lk) : List Int := (ks.filter (lkB del)).map fun x => posP l x.node
def linksP (l : List Nd) (del : Bool) (ks : List Lk) : List Int := compI (sortI (rawP l del ks))
theorem rawP_next {l : List Nd} {del : Bool} {ks : List Lk} {j : Nat} (h : j < ks.length) : rawP l del (ks.take (j + 1)) = rawP l del (ks.take j) ++ (if lkB del (at_ ks (j : Int)) then [posP l (at_ ks (j : Int)).node] else []) := by
  unfold rawP
  rw [take_next h, List.filter_append, List.map_append]
  congr 1
  by_cases h : lkB del (at_ ks (j : Int)) = true <;> simp [h]
theorem rawP_len (l : List Nd) (del : Bool) (ks : List Lk) : (rawP l del ks).length ≤ ks.length := by
  unfold rawP
  rw [List.length_map]
  exact List.length_filter_le _ _
structure LkI (H : Heap) (w0 : World) (n0 n : Nat) (E : Nat → Prop) (v : Value) (xs : List Int) : Prop where
  ow : OwR ⟨Try.prog, w0⟩ H n E 3 1 intC v xs
  ne : ∀ i, E i → n0 ≤ i
structure EV where
  j : Nat
  v : Value
  E : Nat → Prop
theorem links_ok {G M : Nat} {fv gv kv : Value} {b : Bool} {l : List Nd} {ks : List Lk} (hg : H G = .cells [.map (some (new M)), fv, gv] 62 1) (hm : MapG strK H M (idxV l 0)) (hGn : G < n) (hMn : M < n) (hs : SlR ⟨Try.prog, w0⟩ H D 8 Lk.cells kv ks) (hD : ∀ i, D i → i < n) (hl : ks.length ≤ 1000000)
    (hk : ∀ n' H' v E, n ≤ n' → (∀ i, i < n → H' i = H i) → (∀ i, E i → n ≤ i) → OwR ⟨Try.prog, w0⟩ H' n' E 3 1 intC v (linksP l b ks) → K v n' H') :
    ACall ⟨Try.prog, w0⟩ 44 [.pointer (some ⟨new G, 0, none⟩), kv, .bool b] K n H := by
  refine ACall.run Try.func44 rfl Try.ntmps44 Try.results44 (by simp) fun J0 => ?_
  simp (disch := omega) [-hset_if, -Bool.decide_and, hset_ne, hs.lenK]
  refine AW.while (σ := EV) (fun s => ks.length - s.j) (fun s => [(0, .pointer (some ⟨new G, 0, none⟩)), (2, .bool b), (10, kv), (11, .int .i64 (ks.length : Int)), (7, s.v), (12, .int .i64 (s.j : Int))])
    (fun s n2 H2 => s.j ≤ ks.length ∧ n ≤ n2 ∧ (∀ i, i < n → H2 i = H i) ∧ LkI H2 w0 n n2 s.E s.v (rawP l b (ks.take s.j))) ⟨0, .slice none 0 0, fun _ => False⟩ ?_ ?_ ?_
  · simp (disch := omega) [-hset_if, -Bool.decide_and, hset_ne]
  · exact ⟨by simp, by omega, fun _ _ => rfl, OwR.nil (by omega), fun _ h => h.elim⟩
  rintro ⟨j, v, E⟩ n2 H2 ⟨g1, g2, g3, ⟨g4, g5⟩⟩
  dsimp only at g1 g4 g5 ⊢
  have hs2 : SlR ⟨Try.prog, w0⟩ H2 D 8 Lk.cells kv ks := hs.frame (fun i hi => g3 i (hD i hi))
  have hrl := rawP_len l b (ks.take j)
  have hrt : (ks.take j).length ≤ ks.length := by simp; omega
  simp (disch := omega) [-hset_if, -Bool.decide_and, hset_ne]
  refine cif_dec (fun c1 => ?_) (fun c1 => ?_)
  · have hjl : j < ks.length := by omega
    have hnx := rawP_next (l := l) (del := b) hjl
    obtain ⟨x, hx⟩ : ∃ x, at_ ks (j : Int) = x := ⟨_, rfl⟩
    rw [hx] at hnx
    simp (disch := omega) [-hset_if, -Bool.decide_and, hset_ne, hs2.ix elemS45, hs2.load0 shp54, hx]
    have hb3 : hset n2 (.cells [.string x.node, .int .i64 x.port, .string x.pt, .int .i64 x.ck, .int .i64 x.cn, .bool x.del, .int .i64 x.ik, .int .i64 x.iv] 54 1) H2 n2 = (.cells [.string x.node, .int .i64 x.port, .string x.pt, .int .i64 x.ck, .int .i64 x.cn, .bool x.del, .int .i64 x.ik, .int .i64 x.iv] 54 1) := hset_same _ _ _
    have hf3 : ∀ i, i < n2 → hset n2 (.cells [.string x.node, .int .i64 x.port, .string x.pt, .int .i64 x.ck, .int .i64 x.cn, .bool x.del, .int .i64 x.ik, .int .i64 x.iv] 54 1) H2 i = H2 i := fun i hi => hset_ne (by omega) _ _
    generalize hset n2 (.cells [.string x.node, .int .i64 x.port, .string x.pt, .int .i64 x.ck, .int .i64 x.cn, .bool x.del, .int .i64 x.ik, .int .i64 x.iv] 54 1) H2 = H3 at *
    have hg3 : H3 G = .cells [.map (some (new M)), fv, gv] 62 1 := by rw [hf3 G (by omega), g3 G hGn]; exact hg
    have hm3 : MapG strK H3 M (idxV l 0) := hm.frame (by rw [hf3 M (by omega), g3 M hMn])
    have ow3 := g4.frame (m := n2 + 1) (H' := H3) (by omega) (fun i hi => hf3 i (g4.lt i hi))
    have hlk : ∀ k : Value → Prop, k (.int .i64 (posP l x.node)) → lookK ⟨Try.prog, w0⟩ H3 60 (.map (some (new M))) (.string x.node) false k := fun k hk => (MapG.look (C := ⟨Try.prog, w0⟩) (f := strK) (x := x.node) (ok := false) hm3 strI mapT60 zeroV3 strOk).mpr (by rw [lk_idx]; exact hk)
    by_cases c2 : x.node = ⟨#[]⟩
    · have hB : lkB b x = false := by unfold lkB; rw [decide_eq_true c2]; rfl
      rw [if_neg (by rw [hB]; simp), List.append_nil] at hnx
      simp (disch := omega) [-hset_if, -Bool.decide_and, hset_ne, hb3, c2]
      exact Next.mk ⟨j + 1, v, E⟩ (by first | omega | (dsimp only; omega)) (by simp (disch := omega) [-hset_if, -Bool.decide_and, hset_ne]) ⟨(by first | omega | (dsimp only; omega)), by omega, fun i hi => by rw [hf3 i (by omega), g3 i hi], ⟨by dsimp only; rw [hnx]; exact ow3, g5⟩⟩
    cases b with
    | true =>
      have hB : lkB true x = true := by unfold lkB; rw [decide_eq_false c2]; rfl
      rw [if_pos hB] at hnx
      simp (disch := omega) [-hset_if, -Bool.decide_and, hset_ne, hb3, c2]
      refine AW.draw (X := ⟨_, 42, _, _⟩) (id := 6) mixed (.take 0 <| .take 1 <| .take 2 <| .take 3 <| .take 4 <| .take 5 <| .take 6 <| .each 7 [0] (.each 8 [0] (.each 9 [] (.take 10 <| .done) <| .stop) <| .stop) <| .stop) (by kernel_rfl) ?_
      simp (disch := omega) [-hset_if, -Bool.decide_and, hset_ne, hg3, hb3]
      refine hlk _ ?_
      simp (disch := omega) [-hset_if, -Bool.decide_and, hset_ne]
      refine ow3.push elemS35 zero3 (by simp) (posP l x.node) rfl rfl rfl (by first | omega | (dsimp only; omega)) (by first | omega | (dsimp only; omega)) ?_
      intro v4 n4 H4 E4 q1 q2 q3 q4 q5
      simp (disch := omega) [-hset_if, -Bool.decide_and, hset_ne]
      refine Next.mk ⟨j + 1, v4, E4⟩ (by first | omega | (dsimp only; omega)) (by simp (disch := omega) [-hset_if, -Bool.decide_and, hset_ne]) ⟨(by first | omega | (dsimp only; omega)), by omega, fun i hi => by rw [q3 i (by omega) (fun e => by have := g5 i e; omega), hf3 i (by omega), g3 i hi], ⟨by dsimp only; rw [hnx]; exact q5, fun i hi => by rcases q4 i hi with h | h; exact g5 i h; omega⟩⟩
    | false =>
      cases c4 : x.del with
      | true =>
        have hB : lkB false x = false := by unfold lkB; rw [c4]; simp
        rw [c4] at hb3
        rw [if_neg (by rw [hB]; simp), List.append_nil] at hnx
        simp (disch := omega) [-hset_if, -Bool.decide_and, hset_ne, hb3, c2]
        exact Next.mk ⟨j + 1, v, E⟩ (by first | omega | (dsimp only; omega)) (by simp (disch := omega) [-hset_if, -Bool.decide_and, hset_ne]) ⟨(by first | omega | (dsimp only; omega)), by omega, fun i hi => by rw [hf3 i (by omega), g3 i hi], ⟨by dsimp only; rw [hnx]; exact ow3, g5⟩⟩
      | false =>
        have hB : lkB false x = true := by unfold lkB; rw [decide_eq_false c2, c4]; rfl
        rw [if_pos hB] at hnx
        rw [c4] at hb3
        simp (disch := omega) [-hset_if, -Bool.decide_and, hset_ne, hb3, c2]
        refine AW.draw (X := ⟨_, 42, _, _⟩) (id := 6) mixed (.take 0 <| .take 1 <| .take 2 <| .take 3 <| .take 4 <| .take 5 <| .take 6 <| .each 7 [0] (.each 8 [0] (.each 9 [] (.take 10 <| .done) <| .stop) <| .stop) <| .stop) (by kernel_rfl) ?_
        simp (disch := omega) [-hset_if, -Bool.decide_and, hset_ne, hg3, hb3]
        refine hlk _ ?_
        simp (disch := omega) [-hset_if, -Bool.decide_and, hset_ne]
        refine ow3.push elemS35 zero3 (by simp) (posP l x.node) rfl rfl rfl (by first | omega | (dsimp only; omega)) (by first | omega | (dsimp only; omega)) ?_
        intro v4 n4 H4 E4 q1 q2 q3 q4 q5
        simp (disch := omega) [-hset_if, -Bool.decide_and, hset_ne]
        refine Next.mk ⟨j + 1, v4, E4⟩ (by first | omega | (dsimp only; omega)) (by simp (disch := omega) [-hset_if, -Bool.decide_and, hset_ne]) ⟨(by first | omega | (dsimp only; omega)), by omega, fun i hi => by rw [q3 i (by omega) (fun e => by have := g5 i e; omega), hf3 i (by omega), g3 i hi], ⟨by dsimp only; rw [hnx]; exact q5, fun i hi => by rcases q4 i hi with h | h; exact g5 i h; omega⟩⟩
  · have hj : j = ks.length := by omega
    rw [hj, List.take_length] at g4
    simp (disch := omega) [-hset_if, -Bool.decide_and, hset_ne]
    have hrl2 := rawP_len l b ks
    refine sort_ok g4 (by omega) ?_
    intro H3 e1 e2
    have hsl := sortI_len (rawP l b ks)
    simp (disch := omega) [-hset_if, -Bool.decide_and, hset_ne]
    refine Compact_ok e2 (by rw [hsl]; have := rawP_len l b ks; omega) ?_
    intro v4 H4 e3 e4
    simp (disch := omega) [-hset_if, -Bool.decide_and, hset_ne]
    refine Fin_id ?_
    exact hk _ _ _ _ g2 (fun i hi => by rw [e3 i (fun h => by have := g5 i h; omega), e1 i (fun h => by have := g5 i h; omega), g3 i hi]) g5 e4
end Go.Aw.S25
/-
  Chapter 25: the graph of a program.
-/
namespace Go.Aw.S25
open Go.RowKit Go.Proofs Go.Aw.Tab
set_option linter.unusedSimpArgs false
set_option linter.unusedVariables false
set_option maxRecDepth 10000
set_option maxHeartbeats 1000000
set_option pp.deepTerms false
set_option pp.deepTerms.threshold 4
set_option pp.maxSteps 1500
attribute [local simp] Lk.cells Nd.cells Dr.cells Pg.val intC
variable {w0 : World} {n : Nat} {H : Heap} {K : Value → Nat → Heap → Prop} {p : Pg} {D E : Nat → Prop}
theorem find_any (l : List Nd) (s : ByteArray) : decide (0 ≤ findP l s) = l.any fun d => decide (d.name = s) := fidx_any _ _
theorem known2_ok {V G M : Nat} {fv gv : Value} {l : List Nd} {k : Lk} (hv : H V = .cells [.pointer (some ⟨new G, 0, none⟩)] 57 1) (hg : H G = .cells [.map (some (new M)), fv, gv] 62 1) (hm : MapG strK H M (idxV l 0)) (hV : V < n) (hGn : G < n) (hMn : M < n)
    (hk : K (.bool (knownB l k)) n H) : ACall ⟨Try.prog, w0⟩ 46 [.agg k.cells.toArray, .pointer (some ⟨new V, 0, none⟩)] K n H := by
  refine ACall.res (fun K' hr => ?_) (by simp) hk
  refine ACall.run Try.func46 rfl Try.ntmps46 Try.results46 (by simp) fun J0 => ?_
  simp (disch := omega) [-hset_if, -Bool.decide_and, hset_ne]
  have hb3 : hset n (.cells [.string k.node, .int .i64 k.port, .string k.pt, .int .i64 k.ck, .int .i64 k.cn, .bool k.del, .int .i64 k.ik, .int .i64 k.iv] 54 1) H n = (.cells [.string k.node, .int .i64 k.port, .string k.pt, .int .i64 k.ck, .int .i64 k.cn, .bool k.del, .int .i64 k.ik, .int .i64 k.iv] 54 1) := hset_same _ _ _
  have hf3 : ∀ i, i < n → hset n (.cells [.string k.node, .int .i64 k.port, .string k.pt, .int .i64 k.ck, .int .i64 k.cn, .bool k.del, .int .i64 k.ik, .int .i64 k.iv] 54 1) H i = H i := fun i hi => hset_ne (by omega) _ _
  generalize hset n (.cells [.string k.node, .int .i64 k.port, .string k.pt, .int .i64 k.ck, .int .i64 k.cn, .bool k.del, .int .i64 k.ik, .int .i64 k.iv] 54 1) H = H3 at *
  have hv3 : H3 V = .cells [.pointer (some ⟨new G, 0, none⟩)] 57 1 := by rw [hf3 V hV]; exact hv
  have hg3 : H3 G = .cells [.map (some (new M)), fv, gv] 62 1 := by rw [hf3 G hGn]; exact hg
  have hm3 : MapG strK H3 M (idxV l 0) := hm.frame (hf3 M hMn)
  have hlk : ∀ k' : Value → Prop, k' (.tuple #[.int .i64 (posP l k.node), .bool (decide (0 ≤ findP l k.node))]) → lookK ⟨Try.prog, w0⟩ H3 60 (.map (some (new M))) (.string k.node) true k' := fun k' hk => (MapG.look (C := ⟨Try.prog, w0⟩) (f := strK) (x := k.node) (ok := true) hm3 strI mapT60 zeroV3 strOk).mpr (by rw [lk_idx2]; exact hk)
  refine AW.draw (X := ⟨_, 22, _, _⟩) (id := 1) mixed (.take 0 <| .take 1 <| .take 2 <| .take 3 <| .take 4 <| .take 5 <| .each 6 [] (.take 7 <| .take 8 <| .take 9 <| .take 10 <| .take 11 <| .done) <| .stop) (by kernel_rfl) ?_
  simp (disch := omega) [-hset_if, -Bool.decide_and, hset_ne, hv3, hg3, hb3]
  refine hlk _ ?_
  simp (disch := omega) [-hset_if, -Bool.decide_and, hset_ne]
  have hfa := find_any l k.node
  refine gif_var (fun c1 => ?_) (fun c1 => ?_)
  · simp (disch := omega) [-hset_if, -Bool.decide_and, hset_ne]
    refine hr.fin ?_ (by omega) hf3
    unfold knownB
    rw [← hfa, c1, Bool.or_true]
  · simp (disch := omega) [-hset_if, -Bool.decide_and, hset_ne, hb3]
    refine hr.fin ?_ (by omega) hf3
    unfold knownB
    rw [← hfa, c1, Bool.or_false]
/-- What holds while the graph is built. -/
structure BdI (H0 H : Heap) (n n2 : Nat) (p : Pg) (l : List Nd) (fv gv : Value) : Prop where
  bx : H n = .cells [.string p.nm, .int .i64 p.per, p.nv, p.dv] 25 1
  gr : H (n + 2) = .cells [.map (some (new (n + 1))), fv, gv] 62 1
  va : H (n + 3) = .cells [.pointer (some ⟨new (n + 2), 0, none⟩)] 57 1
  mp : MapG strK H (n + 1) (idxV l 0)
  fr : ∀ i, i < n → H i = H0 i
  le : n + 4 ≤ n2
theorem BdI.al {H0 H' : Heap} {n2 n3 : Nat} {l : List Nd} {fv gv : Value} (h : BdI H0 H n n2 p l fv gv) (h1 : n2 ≤ n3) (h2 : ∀ i, i < n + 4 → H' i = H i) : BdI H0 H' n n3 p l fv gv :=
  ⟨by rw [h2 n (by omega)]; exact h.bx, by rw [h2 _ (by omega)]; exact h.gr, by rw [h2 _ (by omega)]; exact h.va, h.mp.frame (h2 _ (by omega)), fun i hi => by rw [h2 i (by omega), h.fr i hi], by have := h.le; omega⟩
theorem nodup_next {l : List Nd} {k : Nat} (h : k < l.length) : nodupB (l.take (k + 1)) = (nodupB (l.take k) && !decide (0 ≤ findP (l.take k) (at_ l (k : Int)).name)) := by
  rw [find_any, Bool.eq_iff_iff]
  unfold nodupB
  rw [take_next h, List.map_append, decide_eq_true_iff, List.nodup_append, Bool.and_eq_true, decide_eq_true_iff, Bool.not_eq_true', List.any_eq_false]
  constructor
  · rintro ⟨h1, _, h2⟩
    exact ⟨h1, fun x hx => by simpa using fun e => h2 _ (List.mem_map_of_mem hx) _ (by simp) e⟩
  · rintro ⟨h1, h2⟩
    refine ⟨h1, by simp, fun a ha b hb e => ?_⟩
    obtain ⟨x, hx, rfl⟩ := List.mem_map.1 ha
    simp at hb
    have := h2 x hx
    simp at this
    exact this (by rw [e, hb])
theorem nodup_take {l : List Nd} {k : Nat} (h : nodupB (l.take k) = false) : nodupB l = false := by
  unfold nodupB at *
  rw [decide_eq_false_iff_not] at *
  exact fun h2 => h (h2.sublist (List.Sublist.map _ (List.take_sublist _ _)))
theorem idxV_fresh {l : List Nd} {s : ByteArray} {k : Nat} (h : findP l s < 0) : ∀ q ∈ idxV l k, q.1 ≠ s := by
  have := idxV_find s l k
  rw [if_pos h, List.find?_eq_none] at this
  intro q hq e
  exact this q hq (by simp [e])
theorem idxV_next {l : List Nd} {k : Nat} (h : k < l.length) : idxV (l.take (k + 1)) 0 = idxV (l.take k) 0 ++ [((at_ l (k : Int)).name, .int .i64 (k : Int))] := by
  rw [take_next h, idxV_snoc, List.length_take, Nat.zero_add, Nat.min_eq_left (by omega)]
structure B2 (H0 H : Heap) (n n2 : Nat) (p : Pg) (k : Nat) : Prop where
  bd : BdI H0 H n n2 p p.nds (.slice none 0 0) (.slice none 0 0)
  ok : ∀ q : Nat, q < k → inB p.nds (at_ p.nds (q : Int)) = true
structure B3 (H0 H : Heap) (n n2 : Nat) (p : Pg) (ks : List Lk) (k : Nat) : Prop where
  bd : BdI H0 H n n2 p p.nds (.slice none 0 0) (.slice none 0 0)
  ok : ∀ q : Nat, q < k → knownB p.nds (at_ ks (q : Int)) = true
structure B4 (H0 H : Heap) (n n2 : Nat) (p : Pg) (k : Nat) : Prop where
  bd : BdI H0 H n n2 p p.nds (.slice none 0 0) (.slice none 0 0)
  ok : ∀ q : Nat, q < k → drB p.nds (at_ p.drs (q : Int)) = true
structure B1 (H0 H : Heap) (n n2 : Nat) (p : Pg) (k : Nat) : Prop where
  bd : BdI H0 H n n2 p (p.nds.take k) (.slice none 0 0) (.slice none 0 0)
  nd : nodupB (p.nds.take k) = true
def ext (n k : Nat) (col : Nat → Nat) (i : Nat) : Nat := if i < n then col i else k
/-- The graph while its lists are made. -/
structure GlR (w0 : World) (H0 H : Heap) (n n2 : Nat) (p : Pg) (fv gv : Value) (rs ss : List (Value × List Int)) (E1 E2 : Nat → Prop) (col : Nat → Nat) : Prop where
  bd : BdI H0 H n n2 p p.nds fv gv
  o1 : OwR ⟨Try.prog, w0⟩ H n2 E1 35 1 (fun r : Value × List Int => [r.1]) fv rs
  o2 : OwR ⟨Try.prog, w0⟩ H n2 E2 35 1 (fun r : Value × List Int => [r.1]) gv ss
  c1 : ∀ i, E1 i → col i = 1 ∧ n + 4 ≤ i
  c2 : ∀ i, E2 i → col i = 2 ∧ n + 4 ≤ i
  i1 : ∀ r ∈ rs, SlR ⟨Try.prog, w0⟩ H (fun i => col i = 3 ∧ n + 4 ≤ i ∧ i < n2) 1 intC r.1 r.2
  i2 : ∀ r ∈ ss, SlR ⟨Try.prog, w0⟩ H (fun i => col i = 3 ∧ n + 4 ≤ i ∧ i < n2) 1 intC r.1 r.2
theorem GlR.al {H0 H' : Heap} {n2 n3 : Nat} {fv gv : Value} {rs ss : List (Value × List Int)} {E1 E2 : Nat → Prop} {col : Nat → Nat} (h : GlR w0 H0 H n n2 p fv gv rs ss E1 E2 col) (h1 : n2 ≤ n3) (h2 : ∀ i, i < n2 → H' i = H i) : GlR w0 H0 H' n n3 p fv gv rs ss E1 E2 (ext n2 3 col) := by
  have hle := h.bd.le
  have he : ∀ i, i < n2 → ext n2 3 col i = col i := fun i hi => by unfold ext; rw [if_pos hi]
  refine ⟨h.bd.al h1 (fun i hi => h2 i (by omega)), h.o1.frame h1 (fun i hi => h2 i (h.o1.lt i hi)), h.o2.frame h1 (fun i hi => h2 i (h.o2.lt i hi)), fun i hi => ?_, fun i hi => ?_, fun r hr => ?_, fun r hr => ?_⟩
  · rw [he i (h.o1.lt i hi)]; exact h.c1 i hi
  · rw [he i (h.o2.lt i hi)]; exact h.c2 i hi
  · exact ((h.i1 r hr).frame (fun i hi => h2 i hi.2.2)).mono (fun i hi => ⟨by rw [he i hi.2.2]; exact hi.1, hi.2.1, by have := hi.2.2; omega⟩)
  · exact ((h.i2 r hr).frame (fun i hi => h2 i hi.2.2)).mono (fun i hi => ⟨by rw [he i hi.2.2]; exact hi.1, hi.2.1, by have := hi.2.2; omega⟩)
theorem GlR.push1 {H0 H' : Heap} {n2 n3 : Nat} {fv gv v fv' : Value} {l : List Int} {rs ss : List (Value × List Int)} {E1 E2 E1' : Nat → Prop} {col : Nat → Nat} (h : GlR w0 H0 H n n2 p fv gv rs ss E1 E2 col) (hn : SlR ⟨Try.prog, w0⟩ H (fun i => col i = 3 ∧ n + 4 ≤ i ∧ i < n2) 1 intC v l)
    (q1 : n2 + 1 ≤ n3) (q3 : ∀ i, i < n2 → ¬ E1 i → H' i = H i) (q4 : ∀ i, E1' i → E1 i ∨ n2 < i) (q5 : OwR ⟨Try.prog, w0⟩ H' n3 E1' 35 1 (fun r : Value × List Int => [r.1]) fv' (rs ++ [(v, l)])) :
    GlR w0 H0 (hset (n + 2) (.cells [.map (some (new (n + 1))), fv', gv] 62 1) H') n n3 p fv' gv (rs ++ [(v, l)]) ss E1' E2 (ext n2 1 col) := by
  have hle := h.bd.le
  have he : ∀ i, i < n2 → ext n2 1 col i = col i := fun i hi => by unfold ext; rw [if_pos hi]
  have hlow : ∀ i, i < n + 4 → i ≠ n + 2 → hset (n + 2) (.cells [.map (some (new (n + 1))), fv', gv] 62 1) H' i = H i := fun i hi hne => by
    rw [hset_ne hne, q3 i (by omega) (fun e => by have := h.c1 i e; omega)]
  have hin : ∀ i, col i = 3 ∧ n + 4 ≤ i ∧ i < n2 → hset (n + 2) (.cells [.map (some (new (n + 1))), fv', gv] 62 1) H' i = H i := fun i hi => by
    rw [hset_ne (by omega), q3 i hi.2.2 (fun e => by have := (h.c1 i e).1; omega)]
  have hms : ∀ i, col i = 3 ∧ n + 4 ≤ i ∧ i < n2 → ext n2 1 col i = 3 ∧ n + 4 ≤ i ∧ i < n3 := fun i hi => ⟨by rw [he i hi.2.2]; exact hi.1, hi.2.1, by omega⟩
  refine ⟨⟨by rw [hlow n (by omega) (by omega)]; exact h.bd.bx, hset_same _ _ _, by rw [hlow _ (by omega) (by omega)]; exact h.bd.va, h.bd.mp.frame (hlow _ (by omega) (by omega)), fun i hi => by rw [hlow i (by omega) (by omega), h.bd.fr i hi], by omega⟩, q5.frame (Nat.le_refl _) (fun i hi => hset_ne (by rcases q4 i hi with e | e; have := h.c1 i e; omega; omega) _ _), h.o2.frame (by omega) (fun i hi => by rw [hset_ne (by have := h.c2 i hi; omega), q3 i (h.o2.lt i hi) (fun e => by have := h.c1 i e; have := h.c2 i hi; omega)]), fun i hi => ?_, fun i hi => ?_, fun r hr => ?_, fun r hr => ?_⟩
  · rcases q4 i hi with e | e
    · rw [he i (h.o1.lt i e)]; exact h.c1 i e
    · exact ⟨by unfold ext; rw [if_neg (by omega)], by omega⟩
  · rw [he i (h.o2.lt i hi)]; exact h.c2 i hi
  · rcases List.mem_append.1 hr with hr | hr
    · exact ((h.i1 r hr).frame hin).mono hms
    · simp only [List.mem_cons, List.not_mem_nil, or_false] at hr
      subst hr
      exact (hn.frame hin).mono hms
  · exact ((h.i2 r hr).frame hin).mono hms
theorem GlR.push2 {H0 H' : Heap} {n2 n3 : Nat} {fv gv v gv' : Value} {l : List Int} {rs ss : List (Value × List Int)} {E1 E2 E2' : Nat → Prop} {col : Nat → Nat} (h : GlR w0 H0 H n n2 p fv gv rs ss E1 E2 col) (hn : SlR ⟨Try.prog, w0⟩ H (fun i => col i = 3 ∧ n + 4 ≤ i ∧ i < n2) 1 intC v l)
    (q1 : n2 + 1 ≤ n3) (q3 : ∀ i, i < n2 → ¬ E2 i → H' i = H i) (q4 : ∀ i, E2' i → E2 i ∨ n2 < i) (q5 : OwR ⟨Try.prog, w0⟩ H' n3 E2' 35 1 (fun r : Value × List Int => [r.1]) gv' (ss ++ [(v, l)])) :
    GlR w0 H0 (hset (n + 2) (.cells [.map (some (new (n + 1))), fv, gv'] 62 1) H') n n3 p fv gv' rs (ss ++ [(v, l)]) E1 E2' (ext n2 2 col) := by
  have hle := h.bd.le
  have he : ∀ i, i < n2 → ext n2 2 col i = col i := fun i hi => by unfold ext; rw [if_pos hi]
  have hlow : ∀ i, i < n + 4 → i ≠ n + 2 → hset (n + 2) (.cells [.map (some (new (n + 1))), fv, gv'] 62 1) H' i = H i := fun i hi hne => by
    rw [hset_ne hne, q3 i (by omega) (fun e => by have := h.c2 i e; omega)]
  have hin : ∀ i, col i = 3 ∧ n + 4 ≤ i ∧ i < n2 → hset (n + 2) (.cells [.map (some (new (n + 1))), fv, gv'] 62 1) H' i = H i := fun i hi => by
    rw [hset_ne (by omega), q3 i hi.2.2 (fun e => by have := (h.c2 i e).1; omega)]
  have hms : ∀ i, col i = 3 ∧ n + 4 ≤ i ∧ i < n2 → ext n2 2 col i = 3 ∧ n + 4 ≤ i ∧ i < n3 := fun i hi => ⟨by rw [he i hi.2.2]; exact hi.1, hi.2.1, by omega⟩
  refine ⟨⟨by rw [hlow n (by omega) (by omega)]; exact h.bd.bx, hset_same _ _ _, by rw [hlow _ (by omega) (by omega)]; exact h.bd.va, h.bd.mp.frame (hlow _ (by omega) (by omega)), fun i hi => by rw [hlow i (by omega) (by omega), h.bd.fr i hi], by omega⟩, h.o1.frame (by omega) (fun i hi => by rw [hset_ne (by have := h.c1 i hi; omega), q3 i (h.o1.lt i hi) (fun e => by have := h.c1 i hi; have := h.c2 i e; omega)]), q5.frame (Nat.le_refl _) (fun i hi => hset_ne (by rcases q4 i hi with e | e; have := h.c2 i e; omega; omega) _ _), fun i hi => ?_, fun i hi => ?_, fun r hr => ?_, fun r hr => ?_⟩
  · rw [he i (h.o1.lt i hi)]; exact h.c1 i hi
  · rcases q4 i hi with e | e
    · rw [he i (h.o2.lt i e)]; exact h.c2 i e
    · exact ⟨by unfold ext; rw [if_neg (by omega)], by omega⟩
  · exact ((h.i1 r hr).frame hin).mono hms
  · rcases List.mem_append.1 hr with hr | hr
    · exact ((h.i2 r hr).frame hin).mono hms
    · simp only [List.mem_cons, List.not_mem_nil, or_false] at hr
      subst hr
      exact (hn.frame hin).mono hms
def lnkP (p : Pg) (b : Bool) (d : Nd) : List Int := linksP p.nds b d.lks
structure B5 (w0 : World) (H0 H : Heap) (n n2 : Nat) (p : Pg) (k : Nat) : Prop where
  ex : ∃ fv gv rs ss E1 E2 col, GlR w0 H0 H n n2 p fv gv rs ss E1 E2 col ∧ rs.map (·.2) = (p.nds.take k).map (lnkP p false) ∧ ss.map (·.2) = (p.nds.take k).map (lnkP p true)
/-- The graph of a program. -/
structure GrR (H : Heap) (w0 : World) (n n2 G M : Nat) (p : Pg) (fv gv : Value) : Prop where
  gr : H G = .cells [.map (some (new M)), fv, gv] 62 1
  mp : MapG strK H M (idxV p.nds 0)
  fs : FsR H w0 (fun i => n ≤ i ∧ i < n2) fv (p.nds.map (lnkP p false))
  ft : FsR H w0 (fun i => n ≤ i ∧ i < n2) gv (p.nds.map (lnkP p true))
  lt : n ≤ G ∧ G < n2 ∧ n ≤ M ∧ M < n2
theorem build_ok (hp : PrR H w0 D p) (hD : ∀ i, D i → i < n)
    (hib : ∀ d ∈ p.nds, d.lks.length ≤ 1000000)
    (hk : ∀ n' H', n ≤ n' → (∀ i, i < n → H' i = H i) → checkP p ≠ 0 → K (.tuple #[.pointer none, .int .i64 (checkP p)]) n' H')
    (hk2 : ∀ n' H' G M fv gv, n ≤ n' → (∀ i, i < n → H' i = H i) → checkP p = 0 → GrR H' w0 n n' G M p fv gv → K (.tuple #[.pointer (some ⟨new G, 0, none⟩), .int .i64 0]) n' H') : ACall ⟨Try.prog, w0⟩ 33 [p.val] K n H := by
  refine ACall.run Try.func33 rfl Try.ntmps33 Try.results33 (by simp) fun J0 => ?_
  simp (disch := omega) [-hset_if, -Bool.decide_and, hset_ne, hp.ns.lenK]
  have hnb := hp.nb
  have hdb := hp.db
  refine cif_dec (fun c0 => ?_) (fun c0 => ?_)
  · simp (disch := omega) [-hset_if, -Bool.decide_and, hset_ne]
    refine Fin_id ?_
    have e : checkP p = 7 := by unfold checkP; rw [if_pos (by omega)]
    have := hk (n + 1) (hset n (.cells [.string p.nm, .int .i64 p.per, p.nv, p.dv] 25 1) H) (by omega) (fun i hi => by simp (disch := omega) only [hset_ne]) (by rw [e]; decide)
    rw [e] at this
    exact this
  simp (disch := omega) [-hset_if, -Bool.decide_and, hset_ne, hp.ns.lenK]
  try rw [show (Value.agg #[.string p.nm, .int .i64 p.per, p.nv, p.dv]).cells.toList = [.string p.nm, .int .i64 p.per, p.nv, p.dv] from rfl]
  have hB0 : BdI H (hset (n + 3) (.cells [.pointer (some ⟨new (n + 2), 0, none⟩)] 57 1) (hset (n + 2) (.cells [.map (some (new (n + 1))), .slice none 0 0, .slice none 0 0] 62 1) (hset (n + 1) (.map [] 0) (hset n (.cells [.string p.nm, .int .i64 p.per, p.nv, p.dv] 25 1) H)))) n (n + 4) p (p.nds.take 0) (.slice none 0 0) (.slice none 0 0) :=
    ⟨by simp (disch := omega) [-hset_if, -Bool.decide_and, hset_ne], by simp (disch := omega) [-hset_if, -Bool.decide_and, hset_ne], by simp (disch := omega) [-hset_if, -Bool.decide_and, hset_ne], MapG.new0 (c := 0) (by simp (disch := omega) [-hset_if, -Bool.decide_and, hset_ne]), (fun i hi => by simp (disch := omega) only [hset_ne]), by omega⟩
  generalize hset (n + 3) (.cells [.pointer (some ⟨new (n + 2), 0, none⟩)] 57 1) (hset (n + 2) (.cells [.map (some (new (n + 1))), .slice none 0 0, .slice none 0 0] 62 1) (hset (n + 1) (.map [] 0) (hset n (.cells [.string p.nm, .int .i64 p.per, p.nv, p.dv] 25 1) H))) = H1 at *
  have h1b := hB0.bx
  simp (disch := omega) [-hset_if, -Bool.decide_and, hset_ne, h1b, hp.ns.lenK]
  refine AW.while (σ := Nat) (fun k => p.nds.length - k) (fun k => [(1, .pointer (some ⟨new n, 0, none⟩)), (4, .pointer (some ⟨new (n + 3), 0, none⟩)), (26, p.nv), (27, .int .i64 (p.nds.length : Int)), (28, .int .i64 (k : Int))])
    (fun k n2 H2 => k ≤ p.nds.length ∧ B1 H H2 n n2 p k) 0 ?_ ?_ ?_
  · simp (disch := omega) [-hset_if, -Bool.decide_and, hset_ne]
  · exact ⟨by omega, hB0, rfl⟩
  clear hB0 h1b
  rintro k n2 H2 ⟨g1, ⟨g2, g3⟩⟩
  have hp2 : PrR H2 w0 D p := hp.frame (fun i hi => g2.fr i (hD i hi))
  have hle := g2.le
  simp (disch := omega) [-hset_if, -Bool.decide_and, hset_ne]
  refine cif_dec (fun c1 => ?_) (fun c1 => ?_)
  · have hkl : k < p.nds.length := by omega
    have hnx := nodup_next hkl
    rw [g3, Bool.true_and] at hnx
    obtain ⟨d, hd⟩ : ∃ d, at_ p.nds (k : Int) = d := ⟨_, rfl⟩
    rw [hd] at hnx
    have hd1 : d ∈ p.nds := hd ▸ at_mem hkl
    have ho1 := hp.po d hd1
    have ho2 := (hp.is d hd1).one
    simp (disch := omega) [-hset_if, -Bool.decide_and, hset_ne, hp2.ns.ix elemS22, hp2.ns.load0 shp47, hd, ho1, ho2]
    have hb3 : hset n2 (.cells [.string d.name, .string d.block, d.ps, d.ins] 47 1) H2 n2 = .cells [.string d.name, .string d.block, d.ps, d.ins] 47 1 := hset_same _ _ _
    have g4 := g2.al (n3 := n2 + 1) (H' := hset n2 (.cells [.string d.name, .string d.block, d.ps, d.ins] 47 1) H2) (by omega) (fun i hi => hset_ne (by omega) _ _)
    generalize hset n2 (.cells [.string d.name, .string d.block, d.ps, d.ins] 47 1) H2 = H3 at *
    have hlk : ∀ k' : Value → Prop, k' (.tuple #[.int .i64 (posP (p.nds.take k) d.name), .bool (decide (0 ≤ findP (p.nds.take k) d.name))]) → lookK ⟨Try.prog, w0⟩ H3 60 (.map (some (new (n + 1)))) (.string d.name) true k' := fun k' hk => (MapG.look (C := ⟨Try.prog, w0⟩) (f := strK) (x := d.name) (ok := true) g4.mp strI mapT60 zeroV3 strOk).mpr (by rw [lk_idx2]; exact hk)
    have hva := g4.va
    have hgr := g4.gr
    refine AW.draw (X := ⟨_, 121, _, _⟩) (id := 7) mixed (.take 0 <| .take 1 <| .take 2 <| .take 3 <| .take 4 <| .take 5 <| .each 6 [] (.take 7 <| .take 8 <| .take 9 <| .take 10 <| .take 11 <| .done) <| .stop) (by kernel_rfl) ?_
    simp (disch := omega) [-hset_if, -Bool.decide_and, hset_ne, hva, hgr, hb3]
    refine hlk _ ?_
    simp (disch := omega) [-hset_if, -Bool.decide_and, hset_ne]
    refine cif_dec (fun c2 => ?_) (fun c2 => ?_)
    · rw [decide_eq_true c2] at hnx
      have e : checkP p = 5 := by unfold checkP; rw [if_neg (by omega), if_pos (nodup_take hnx)]
      simp (disch := omega) [-hset_if, -Bool.decide_and, hset_ne]
      refine Fin_id ?_
      have := hk (n2 + 1) H3 (by omega) g4.fr (by rw [e]; decide)
      rw [e] at this
      exact this
    · rw [decide_eq_false c2] at hnx
      simp (disch := omega) [-hset_if, -Bool.decide_and, hset_ne]
      refine AW.draw (X := ⟨_, 121, _, _⟩) (id := 10) mixed (.take 0 <| .take 1 <| .take 2 <| .take 3 <| .take 4 <| .take 5 <| .take 6 <| .each 7 [] (.done) <| .stop) (by kernel_rfl) ?_
      simp (disch := omega) [-hset_if, -Bool.decide_and, hset_ne, hva, hgr, hb3]
      refine MapG.add (f := strK) (x := d.name) g4.mp strI (idxV_fresh (by omega)) mapT60 strOk ?_
      intro o ho
      have hid := idxV_next hkl
      rw [hd] at hid
      rw [← hid] at ho
      simp (disch := omega) [-hset_if, -Bool.decide_and, hset_ne]
      exact Next.mk (k + 1) (by first | omega | (dsimp only; omega)) (by simp (disch := omega) [-hset_if, -Bool.decide_and, hset_ne]) ⟨by omega, ⟨by rw [hset_ne (by omega)]; exact g4.bx, by rw [hset_ne (by omega)]; exact g4.gr, by rw [hset_ne (by omega)]; exact g4.va, ho, fun i hi => by rw [hset_ne (by omega)]; exact g4.fr i hi, g4.le⟩, by rw [hnx]; rfl⟩
  have hk0 : k = p.nds.length := by omega
  subst hk0
  rw [List.take_length] at g3
  have g5 : BdI H H2 n n2 p p.nds (.slice none 0 0) (.slice none 0 0) := by have := g2; rwa [List.take_length] at this
  clear g2
  have hch : checkP p = if p.nds.all (inB p.nds) && p.drs.all (drB p.nds) then 0 else 3 := by
    unfold checkP
    rw [if_neg (by omega), if_neg (by rw [g3]; simp)]
  have h1b := g5.bx
  simp (disch := omega) [-hset_if, -Bool.decide_and, hset_ne, h1b, hp2.ns.lenK]
  refine AW.while (σ := Nat) (fun k => p.nds.length - k) (fun k => [(1, .pointer (some ⟨new n, 0, none⟩)), (4, .pointer (some ⟨new (n + 3), 0, none⟩)), (9, .func (.func 46) #[] #[.pointer (some ⟨new (n + 3), 0, none⟩)]), (54, p.nv), (55, .int .i64 (p.nds.length : Int)), (56, .int .i64 (k : Int))])
    (fun k n3 H3 => k ≤ p.nds.length ∧ B2 H H3 n n3 p k) 0 ?_ ?_ ?_
  · simp (disch := omega) [-hset_if, -Bool.decide_and, hset_ne]
  · exact ⟨by omega, g5, by omega⟩
  clear g5 h1b hp2 hle
  rintro k n3 H3 ⟨g1, ⟨g2, g4⟩⟩
  have hp3 : PrR H3 w0 D p := hp.frame (fun i hi => g2.fr i (hD i hi))
  have hle := g2.le
  have hent : entB Try.prog 46 = true := by kernel_rfl
  simp (disch := omega) [-hset_if, -Bool.decide_and, hset_ne]
  refine cif_dec (fun c2 => ?_) (fun c2 => ?_)
  · have hkl : k < p.nds.length := by omega
    obtain ⟨d, hd⟩ : ∃ d, at_ p.nds (k : Int) = d := ⟨_, rfl⟩
    have hd1 : d ∈ p.nds := hd ▸ at_mem hkl
    have ho1 := hp.po d hd1
    have hib := hp.ib d hd1
    have ho2 := (hp.is d hd1).one
    simp (disch := omega) [-hset_if, -Bool.decide_and, hset_ne, hp3.ns.ix elemS22, hp3.ns.load0 shp47, hd, ho1, ho2]
    have hb3 : hset n3 (.cells [.string d.name, .string d.block, d.ps, d.ins] 47 1) H3 n3 = .cells [.string d.name, .string d.block, d.ps, d.ins] 47 1 := hset_same _ _ _
    have g6 := g2.al (n3 := n3 + 1) (H' := hset n3 (.cells [.string d.name, .string d.block, d.ps, d.ins] 47 1) H3) (by omega) (fun i hi => hset_ne (by omega) _ _)
    generalize hset n3 (.cells [.string d.name, .string d.block, d.ps, d.ins] 47 1) H3 = H4 at *
    have hp4 : PrR H4 w0 D p := hp.frame (fun i hi => g6.fr i (hD i hi))
    simp (disch := omega) [-hset_if, -Bool.decide_and, hset_ne, hb3, (hp4.is d hd1).lenK]
    refine AW.while (σ := Nat) (fun j => d.lks.length - j) (fun j => [(1, .pointer (some ⟨new n, 0, none⟩)), (4, .pointer (some ⟨new (n + 3), 0, none⟩)), (9, .func (.func 46) #[] #[.pointer (some ⟨new (n + 3), 0, none⟩)]), (54, p.nv), (55, .int .i64 (p.nds.length : Int)), (56, .int .i64 (k : Int)), (61, d.ins), (62, .int .i64 (d.lks.length : Int)), (63, .int .i64 (j : Int))])
      (fun j n5 H5 => j ≤ d.lks.length ∧ B3 H H5 n n5 p d.lks j) 0 ?_ ?_ ?_
    · simp (disch := omega) [-hset_if, -Bool.decide_and, hset_ne]
    · exact ⟨by omega, g6, by omega⟩
    clear g6 hb3 hp4
    rintro j n5 H5 ⟨l1, ⟨l2, l3⟩⟩
    have hp5 : PrR H5 w0 D p := hp.frame (fun i hi => l2.fr i (hD i hi))
    have hle5 := l2.le
    simp (disch := omega) [-hset_if, -Bool.decide_and, hset_ne]
    refine cif_dec (fun c3 => ?_) (fun c3 => ?_)
    · have hjl : j < d.lks.length := by omega
      obtain ⟨x, hx⟩ : ∃ x, at_ d.lks (j : Int) = x := ⟨_, rfl⟩
      simp (disch := omega) [-hset_if, -Bool.decide_and, hset_ne, (hp5.is d hd1).ix elemS45, (hp5.is d hd1).load0 shp54, hx, hent]
      have l4 := l2.al (n3 := n5 + 1) (H' := hset n5 (.cells [.string x.node, .int .i64 x.port, .string x.pt, .int .i64 x.ck, .int .i64 x.cn, .bool x.del, .int .i64 x.ik, .int .i64 x.iv] 54 1) H5) (by omega) (fun i hi => hset_ne (by omega) _ _)
      generalize hset n5 (.cells [.string x.node, .int .i64 x.port, .string x.pt, .int .i64 x.ck, .int .i64 x.cn, .bool x.del, .int .i64 x.ik, .int .i64 x.iv] 54 1) H5 = H6 at *
      refine known2_ok (k := x) l4.va l4.gr l4.mp (by omega) (by omega) (by omega) ?_
      simp (disch := omega) [-hset_if, -Bool.decide_and, hset_ne]
      refine cif_var (fun c4 => ?_) (fun c4 => ?_)
      · simp (disch := omega) [-hset_if, -Bool.decide_and, hset_ne]
        exact Next.mk (j + 1) (by first | omega | (dsimp only; omega)) (by simp (disch := omega) [-hset_if, -Bool.decide_and, hset_ne]) ⟨by omega, l4, fun q hq => (by by_cases e : q = j; subst e; rw [hx]; exact c4; exact l3 q (by omega))⟩
      · simp (disch := omega) [-hset_if, -Bool.decide_and, hset_ne]
        refine Fin_id ?_
        have hno : p.nds.all (inB p.nds) = false := List.all_eq_false.2 ⟨d, hd1, fun e => (by have := List.all_eq_true.1 e x (hx ▸ at_mem hjl); rw [c4] at this; cases this)⟩
        have e : checkP p = 3 := by rw [hch, hno]; rfl
        have := hk (n5 + 1) H6 (by omega) l4.fr (by rw [e]; decide)
        rw [e] at this
        exact this
    · simp (disch := omega) [-hset_if, -Bool.decide_and, hset_ne]
      exact Next.mk (k + 1) (by first | omega | (dsimp only; omega)) (by simp (disch := omega) [-hset_if, -Bool.decide_and, hset_ne]) ⟨by omega, l2, fun q hq => (by by_cases e : q = k; subst e; rw [hd]; exact List.all_eq_true.2 (fun x hx => by obtain ⟨r, hr, e⟩ := mem_at hx; rw [← e]; exact l3 r (by omega)); exact g4 q (by omega))⟩
  have hall : p.nds.all (inB p.nds) = true := List.all_eq_true.2 (fun x hx => by obtain ⟨r, hr, e⟩ := mem_at hx; rw [← e]; exact g4 r (by omega))
  rw [hall, Bool.true_and] at hch
  clear g4
  have h1b := g2.bx
  simp (disch := omega) [-hset_if, -Bool.decide_and, hset_ne, h1b, hp3.ds.lenK]
  refine AW.while (σ := Nat) (fun k => p.drs.length - k) (fun k => [(1, .pointer (some ⟨new n, 0, none⟩)), (4, .pointer (some ⟨new (n + 3), 0, none⟩)), (9, .func (.func 46) #[] #[.pointer (some ⟨new (n + 3), 0, none⟩)]), (74, p.dv), (75, .int .i64 (p.drs.length : Int)), (76, .int .i64 (k : Int))])
    (fun k n3 H3 => k ≤ p.drs.length ∧ B4 H H3 n n3 p k) 0 ?_ ?_ ?_
  · simp (disch := omega) [-hset_if, -Bool.decide_and, hset_ne]
  · exact ⟨by omega, g2, by omega⟩
  clear g2 h1b hp3 hle c2 g1
  rintro k n3 H3 ⟨g1, ⟨g2, g4⟩⟩
  have hp3 : PrR H3 w0 D p := hp.frame (fun i hi => g2.fr i (hD i hi))
  have hle := g2.le
  simp (disch := omega) [-hset_if, -Bool.decide_and, hset_ne]
  refine cif_dec (fun c2 => ?_) (fun c2 => ?_)
  · have hkl : k < p.drs.length := by omega
    obtain ⟨d, hd⟩ : ∃ d, at_ p.drs (k : Int) = d := ⟨_, rfl⟩
    have hd1 : d ∈ p.drs := hd ▸ at_mem hkl
    simp (disch := omega) [-hset_if, -Bool.decide_and, hset_ne, hp3.ds.ix elemS23, hp3.ds.load0 shp56, hd]
    have hb3 : hset n3 (.cells [.string d.pt, .int .i64 d.lv, .string d.lk.node, .int .i64 d.lk.port, .string d.lk.pt, .int .i64 d.lk.ck, .int .i64 d.lk.cn, .bool d.lk.del, .int .i64 d.lk.ik, .int .i64 d.lk.iv] 56 1) H3 n3 = .cells [.string d.pt, .int .i64 d.lv, .string d.lk.node, .int .i64 d.lk.port, .string d.lk.pt, .int .i64 d.lk.ck, .int .i64 d.lk.cn, .bool d.lk.del, .int .i64 d.lk.ik, .int .i64 d.lk.iv] 56 1 := hset_same _ _ _
    have l4 := g2.al (n3 := n3 + 1) (H' := hset n3 (.cells [.string d.pt, .int .i64 d.lv, .string d.lk.node, .int .i64 d.lk.port, .string d.lk.pt, .int .i64 d.lk.ck, .int .i64 d.lk.cn, .bool d.lk.del, .int .i64 d.lk.ik, .int .i64 d.lk.iv] 56 1) H3) (by omega) (fun i hi => hset_ne (by omega) _ _)
    generalize hset n3 (.cells [.string d.pt, .int .i64 d.lv, .string d.lk.node, .int .i64 d.lk.port, .string d.lk.pt, .int .i64 d.lk.ck, .int .i64 d.lk.cn, .bool d.lk.del, .int .i64 d.lk.ik, .int .i64 d.lk.iv] 56 1) H3 = H4 at *
    simp (disch := omega) [-hset_if, -Bool.decide_and, hset_ne, hb3, hent]
    refine known2_ok (k := d.lk) l4.va l4.gr l4.mp (by omega) (by omega) (by omega) ?_
    simp (disch := omega) [-hset_if, -Bool.decide_and, hset_ne]
    refine cif_var (fun c4 => ?_) (fun c4 => ?_)
    · simp (disch := omega) [-hset_if, -Bool.decide_and, hset_ne]
      exact Next.mk (k + 1) (by first | omega | (dsimp only; omega)) (by simp (disch := omega) [-hset_if, -Bool.decide_and, hset_ne]) ⟨by omega, l4, fun q hq => (by by_cases e : q = k; subst e; rw [hd]; exact c4; exact g4 q (by omega))⟩
    · simp (disch := omega) [-hset_if, -Bool.decide_and, hset_ne]
      refine Fin_id ?_
      have hno : p.drs.all (drB p.nds) = false := List.all_eq_false.2 ⟨d, hd1, fun e => (by unfold drB at e; rw [c4] at e; cases e)⟩
      have e : checkP p = 3 := by rw [hch, hno]; rfl
      have := hk (n3 + 1) H4 (by omega) l4.fr (by rw [e]; decide)
      rw [e] at this
      exact this
  have hall2 : p.drs.all (drB p.nds) = true := List.all_eq_true.2 (fun x hx => by obtain ⟨r, hr, e⟩ := mem_at hx; rw [← e]; exact g4 r (by omega))
  have hch0 : checkP p = 0 := by rw [hch, hall2]; rfl
  clear g4 c2 g1 hch
  have h1b := g2.bx
  simp (disch := omega) [-hset_if, -Bool.decide_and, hset_ne, h1b, hp3.ns.lenK]
  refine AW.while (σ := Nat) (fun k => p.nds.length - k) (fun k => [(4, .pointer (some ⟨new (n + 3), 0, none⟩)), (87, p.nv), (88, .int .i64 (p.nds.length : Int)), (89, .int .i64 (k : Int))])
    (fun k n3 H3 => k ≤ p.nds.length ∧ B5 w0 H H3 n n3 p k) 0 ?_ ?_ ?_
  · simp (disch := omega) [-hset_if, -Bool.decide_and, hset_ne]
  · exact ⟨by omega, ⟨_, _, [], [], fun _ => False, fun _ => False, fun _ => 0, ⟨g2, OwR.nil (by omega), OwR.nil (by omega), fun _ h => h.elim, fun _ h => h.elim, by simp, by simp⟩, rfl, rfl⟩⟩
  clear g2 h1b hp3 hle
  rintro k n3 H3 ⟨g1, ⟨fv, gv, rs, ss, E1, E2, col, g2, g4, g5⟩⟩
  have hp3 : PrR H3 w0 D p := hp.frame (fun i hi => g2.bd.fr i (hD i hi))
  have hle := g2.bd.le
  simp (disch := omega) [-hset_if, -Bool.decide_and, hset_ne]
  refine cif_dec (fun c2 => ?_) (fun c2 => ?_)
  · have hkl : k < p.nds.length := by omega
    have htk : p.nds.take (k + 1) = p.nds.take k ++ [at_ p.nds (k : Int)] := take_next hkl
    obtain ⟨d, hd⟩ : ∃ d, at_ p.nds (k : Int) = d := ⟨_, rfl⟩
    rw [hd] at htk
    have hd1 : d ∈ p.nds := hd ▸ at_mem hkl
    have ho1 := hp.po d hd1
    have ho2 := (hp.is d hd1).one
    have hl1 := hib d hd1
    have hrl : rs.length ≤ 64 := by have := congrArg List.length g4; simp at this; omega
    have hsl : ss.length ≤ 64 := by have := congrArg List.length g5; simp at this; omega
    simp (disch := omega) [-hset_if, -Bool.decide_and, hset_ne, hp3.ns.ix elemS22, hp3.ns.load0 shp47, hd, ho1, ho2]
    have hb3 : hset n3 (.cells [.string d.name, .string d.block, d.ps, d.ins] 47 1) H3 n3 = .cells [.string d.name, .string d.block, d.ps, d.ins] 47 1 := hset_same _ _ _
    have g6 := g2.al (n3 := n3 + 1) (H' := hset n3 (.cells [.string d.name, .string d.block, d.ps, d.ins] 47 1) H3) (by omega) (fun i hi => hset_ne (by omega) _ _)
    generalize hset n3 (.cells [.string d.name, .string d.block, d.ps, d.ins] 47 1) H3 = H4 at *
    generalize ext n3 3 col = col4 at *
    have hp4 : PrR H4 w0 D p := hp.frame (fun i hi => g6.bd.fr i (hD i hi))
    have hva := g6.bd.va
    have hgr := g6.bd.gr
    refine AW.draw (X := ⟨_, 121, _, _⟩) (id := 32) mixed (.take 0 <| .take 1 <| .take 2 <| .take 3 <| .take 4 <| .take 5 <| .take 6 <| .take 7 <| .each 8 [0, 1, 2, 3, 4] (.each 9 [0, 1, 2, 3, 4] (.each 10 [0] (.take 11 <| .take 12 <| .each 13 [] (.done) <| .stop) <| .stop) <| .stop) <| .stop) (by kernel_rfl) ?_
    simp (disch := omega) [-hset_if, -Bool.decide_and, hset_ne, hva, hgr, hb3]
    refine links_ok hgr g6.bd.mp (by omega) (by omega) (hp4.is d hd1) (fun i hi => by have := hD i hi; omega) hl1 ?_
    intro n5 H5 v5 E5 a1 a2 a3 a4
    have g7 := g6.al a1 a2
    have hE1 : ¬ E1 n3 := fun e => by have := g2.o1.lt _ e; omega
    have hE2 : ¬ E2 n3 := fun e => by have := g2.o2.lt _ e; omega
    have hn5 : SlR ⟨Try.prog, w0⟩ H5 (fun i => ext (n3 + 1) 3 col4 i = 3 ∧ n + 4 ≤ i ∧ i < n5) 1 intC v5 (lnkP p false d) := a4.sl.mono (fun i hi => ⟨by unfold ext; rw [if_neg (by have := a3 i hi; omega)], by have := a3 i hi; omega, a4.lt i hi⟩)
    have hb5 := hb3
    rw [← a2 n3 (by omega)] at hb5
    generalize ext (n3 + 1) 3 col4 = col5 at *
    have hva5 := g7.bd.va
    have hgr5 := g7.bd.gr
    simp (disch := omega) [-hset_if, -Bool.decide_and, hset_ne, hva5, hgr5, hb5, a4.sl.cells]
    refine g7.o1.push elemS30 zero35 (by simp) (v5, lnkP p false d) rfl rfl (by simp [a4.sl.one]) (by first | omega | (dsimp only; omega)) (by first | omega | (dsimp only; omega)) ?_
    intro fv' n6 H6 E6 q1 q2 q3 q4 q5
    have hle5 := g7.bd.le
    have hva6 := hva5
    rw [← q3 (n + 3) (by omega) (fun e => by have := g7.c1 _ e; omega)] at hva6
    have hgr6 := hgr5
    rw [← q3 (n + 2) (by omega) (fun e => by have := g7.c1 _ e; omega)] at hgr6
    have hb6 := hb5
    simp (disch := omega) [-hset_if, -Bool.decide_and, hset_ne, hva6, hgr6, q5.sl.cells, q5.sl.one]
    have g8 := g7.push1 hn5 q1 q3 q4 q5
    have hb8 : hset (n + 2) (.cells [.map (some (new (n + 1))), fv', gv] 62 1) H6 n3 = .cells [.string d.name, .string d.block, d.ps, d.ins] 47 1 := by
      rw [hset_ne (by omega), q3 n3 (by omega) (fun e => hE1 e)]; exact hb5
    generalize hset (n + 2) (.cells [.map (some (new (n + 1))), fv', gv] 62 1) H6 = H8 at *
    generalize ext n5 1 col5 = col8 at *
    have hp8 : PrR H8 w0 D p := hp.frame (fun i hi => g8.bd.fr i (hD i hi))
    have hva8 := g8.bd.va
    have hgr8 := g8.bd.gr
    refine AW.draw (X := ⟨_, 121, _, _⟩) (id := 33) mixed (.take 0 <| .take 1 <| .take 2 <| .take 3 <| .take 4 <| .take 5 <| .take 6 <| .take 7 <| .each 8 [0, 1, 2, 3, 4] (.each 9 [0, 1, 2, 3, 4] (.each 10 [0] (.take 11 <| .take 12 <| .each 13 [] (.done) <| .stop) <| .stop) <| .stop) <| .stop) (by kernel_rfl) ?_
    simp (disch := omega) [-hset_if, -Bool.decide_and, hset_ne, hva8, hgr8, hb8]
    have hle8 := g8.bd.le
    refine links_ok hgr8 g8.bd.mp (by omega) (by omega) (hp8.is d hd1) (fun i hi => by have := hD i hi; omega) hl1 ?_
    intro n9 H9 v9 E9 a5 a6 a7 a8
    have g9 := g8.al a5 a6
    have hn9 : SlR ⟨Try.prog, w0⟩ H9 (fun i => ext n6 3 col8 i = 3 ∧ n + 4 ≤ i ∧ i < n9) 1 intC v9 (lnkP p true d) := a8.sl.mono (fun i hi => ⟨by unfold ext; rw [if_neg (by have := a7 i hi; omega)], by have := a7 i hi; omega, a8.lt i hi⟩)
    have hb9 := hb8
    rw [← a6 n3 (by omega)] at hb9
    generalize ext n6 3 col8 = col9 at *
    have hva9 := g9.bd.va
    have hgr9 := g9.bd.gr
    simp (disch := omega) [-hset_if, -Bool.decide_and, hset_ne, hva9, hgr9, hb9, a8.sl.cells]
    refine g9.o2.push elemS30 zero35 (by simp) (v9, lnkP p true d) rfl rfl (by simp [a8.sl.one]) (by first | omega | (dsimp only; omega)) (by first | omega | (dsimp only; omega)) ?_
    intro gv' n10 H10 E10 r1 r2 r3 r4 r5
    have hle9 := g9.bd.le
    have hva10 := hva9
    rw [← r3 (n + 3) (by omega) (fun e => by have := g9.c2 _ e; omega)] at hva10
    have hgr10 := hgr9
    rw [← r3 (n + 2) (by omega) (fun e => by have := g9.c2 _ e; omega)] at hgr10
    simp (disch := omega) [-hset_if, -Bool.decide_and, hset_ne, hva10, hgr10, r5.sl.cells, r5.sl.one]
    have g10 := g9.push2 hn9 r1 r3 r4 r5
    exact Next.mk (k + 1) (by first | omega | (dsimp only; omega)) (by simp (disch := omega) [-hset_if, -Bool.decide_and, hset_ne]) ⟨by omega, ⟨_, _, _, _, _, _, _, g10, by rw [htk]; simp [g4], by rw [htk]; simp [g5]⟩⟩
  · have hk0 : k = p.nds.length := by omega
    subst hk0
    rw [List.take_length] at g4 g5
    have hva := g2.bd.va
    simp (disch := omega) [-hset_if, -Bool.decide_and, hset_ne, hva]
    refine Fin_id ?_
    exact hk2 n3 H3 (n + 2) (n + 1) fv gv (by omega) g2.bd.fr hch0 ⟨g2.bd.gr, g2.bd.mp, ⟨rs, g4, g2.o1.sl.mono (fun i hi => ⟨by have := g2.c1 i hi; omega, g2.o1.lt i hi⟩), fun r hr => (g2.i1 r hr).mono (fun i hi => ⟨by omega, hi.2.2⟩)⟩, ⟨ss, g5, g2.o2.sl.mono (fun i hi => ⟨by have := g2.c2 i hi; omega, g2.o2.lt i hi⟩), fun r hr => (g2.i2 r hr).mono (fun i hi => ⟨by omega, hi.2.2⟩)⟩, by omega⟩
end Go.Aw.S25
/-
  Chapter 25: the links of a connected program are its feeds.
-/
namespace Go.Aw.S25
open Go.RowKit Go.Proofs Go.Aw.Tab
set_option linter.unusedSimpArgs false
set_option linter.unusedVariables false
/-- Ascending, each once. -/
abbrev Asc (l : List Int) : Prop := l.Pairwise (· < ·)
theorem asc_ext {a b : List Int} (ha : Asc a) (hb : Asc b) (h : ∀ x, x ∈ a ↔ x ∈ b) : a = b := by
  induction a generalizing b with
  | nil =>
    cases b with
    | nil => rfl
    | cons y b => exact absurd ((h y).2 List.mem_cons_self) (by simp)
  | cons x a ih =>
    cases b with
    | nil => exact absurd ((h x).1 List.mem_cons_self) (by simp)
    | cons y b =>
      unfold Asc at ha hb
      rw [List.pairwise_cons] at ha hb
      have e : x = y := by
        rcases List.mem_cons.1 ((h x).1 List.mem_cons_self) with e | hx
        · exact e
        · rcases List.mem_cons.1 ((h y).2 List.mem_cons_self) with e | hy
          · exact e.symm
          · have := hb.1 x hx
            have := ha.1 y hy
            omega
      subst e
      rw [ih ha.2 hb.2 fun z => ?_]
      constructor
      · intro hz
        rcases List.mem_cons.1 ((h z).1 (List.mem_cons_of_mem _ hz)) with e | h2
        · have := ha.1 z hz; omega
        · exact h2
      · intro hz
        rcases List.mem_cons.1 ((h z).2 (List.mem_cons_of_mem _ hz)) with e | h2
        · have := hb.1 z hz; omega
        · exact h2
theorem compI_mem (x : Int) : ∀ l : List Int, x ∈ compI l ↔ x ∈ l
  | [] => Iff.rfl
  | [a] => Iff.rfl
  | a :: b :: r => by
    have ih := compI_mem x (b :: r)
    unfold compI
    split
    · rename_i e
      subst e
      rw [ih]; simp
    · rw [List.mem_cons, ih]; simp
theorem compI_asc : ∀ l : List Int, l.Pairwise (· ≤ ·) → Asc (compI l)
  | [], _ => List.Pairwise.nil
  | [a], _ => List.pairwise_singleton _ _
  | a :: b :: r, h => by
    rw [List.pairwise_cons] at h
    have ih := compI_asc (b :: r) h.2
    unfold compI
    split
    · exact ih
    · rename_i e
      refine List.pairwise_cons.2 ⟨fun y hy => ?_, ih⟩
      have hy := (compI_mem y _).1 hy
      have h1 := h.1 b List.mem_cons_self
      have h2 : b ≤ y := by
        rcases List.mem_cons.1 hy with e | h3
        · omega
        · exact (List.pairwise_cons.1 h.2).1 y h3
      omega
theorem sortI_asc (l : List Int) : (sortI l).Pairwise (· ≤ ·) := by
  have := List.pairwise_mergeSort (le := fun x y : Int => decide (x ≤ y)) (fun a b c h1 h2 => by simp at *; omega) (fun a b => by simp; omega) l
  exact this.imp (fun h => by simpa using h)
theorem sortI_mem (x : Int) (l : List Int) : x ∈ sortI l ↔ x ∈ l := List.mem_mergeSort
theorem feedOf_asc (l : List Nd) (b : Bool) (k : Nat) : Asc (feedOf l b k) := by
  unfold feedOf feedTo Asc
  rw [List.pairwise_map]
  refine List.Pairwise.imp (fun h => ?_) (List.Pairwise.filter _ List.pairwise_lt_range)
  omega
theorem links_feed {p : Pg} (hc : checkP p = 0) {b : Bool} {k : Nat} (hk : k < p.nds.length) : lnkP p b (at_ p.nds (k : Int)) = feedOf p.nds b k := by
  have hnd : nodupB p.nds = true ∧ p.nds.all (inB p.nds) = true := by
    unfold checkP at hc
    split at hc
    · omega
    split at hc
    · omega
    split at hc
    · rename_i h1 h2 h3
      rw [Bool.and_eq_true] at h3
      exact ⟨by simpa using h2, h3.1⟩
    · omega
  refine asc_ext (compI_asc _ (sortI_asc _)) (feedOf_asc _ _ _) fun x => ?_
  unfold lnkP linksP
  rw [compI_mem, sortI_mem]
  unfold rawP feedOf feedTo
  simp only [List.mem_map, List.mem_filter, List.mem_range]
  have hin := List.all_eq_true.1 (List.all_eq_true.1 hnd.2 _ (at_mem hk))
  constructor
  · rintro ⟨y, ⟨hy, hb⟩, rfl⟩
    have hkn := hin y hy
    have hb' := hb
    unfold lkB at hb'
    rw [Bool.and_eq_true] at hb'
    unfold knownB at hkn
    have hne : decide (y.node = ⟨#[]⟩) = false := by simpa using hb'.1
    rw [hne, Bool.false_or, ← find_any] at hkn
    obtain ⟨i, hi⟩ : ∃ i : Nat, findP p.nds y.node = (i : Int) := ⟨_, (Int.toNat_of_nonneg (of_decide_eq_true hkn)).symm⟩
    obtain ⟨h1, h2, _⟩ := fidx_spec hi
    refine ⟨i, ⟨h1, ?_⟩, ?_⟩
    · unfold takesB
      refine List.any_eq_true.2 ⟨y, hy, ?_⟩
      unfold tkB
      rw [hne, decide_eq_true (by simpa using (of_decide_eq_true h2).symm)]
      simpa using hb'.2
    · unfold posP
      rw [hi, if_neg (by omega)]
  · rintro ⟨i, ⟨h1, h2⟩, rfl⟩
    unfold takesB at h2
    obtain ⟨y, hy, h3⟩ := List.any_eq_true.1 h2
    unfold tkB at h3
    simp only [Bool.and_eq_true, decide_eq_true_eq] at h3
    refine ⟨y, ⟨hy, ?_⟩, ?_⟩
    · unfold lkB
      rw [h3.1.1, h3.2]; rfl
    · obtain ⟨q, e1, e2, e3⟩ := find_self h1
      unfold posP
      rw [h3.1.2, e1, if_neg (by omega)]
      have := nodup_at hnd.1 (by omega) h1 e3
      omega
theorem links_feeds {p : Pg} (hc : checkP p = 0) (b : Bool) : p.nds.map (lnkP p b) = feedsP p.nds b := by
  unfold feedsP
  refine List.ext_getElem (by simp) fun k h1 h2 => ?_
  have hk : k < p.nds.length := by simpa using h1
  have := links_feed hc (b := b) hk
  rw [at_nat hk] at this
  simpa using this
end Go.Aw.S25
/-
  Chapter 25: Feeds, Check, Of.
-/
namespace Go.Aw.S25
open Go.RowKit Go.Proofs Go.Aw.Tab
set_option linter.unusedSimpArgs false
set_option linter.unusedVariables false
set_option maxRecDepth 10000
set_option maxHeartbeats 1000000
set_option pp.deepTerms false
set_option pp.deepTerms.threshold 4
set_option pp.maxSteps 1500
attribute [local simp] Lk.cells Nd.cells Dr.cells Pg.val intC
variable {w0 : World} {n : Nat} {H : Heap} {K : Value → Nat → Heap → Prop} {p : Pg} {D E : Nat → Prop}
theorem OCheck_ok (hp : PrR H w0 D p) (hD : ∀ i, D i → i < n) (hib : ∀ d ∈ p.nds, d.lks.length ≤ 1000000) (hk : K (.int .i64 (checkP p)) n H) : ACall ⟨Try.prog, w0⟩ 15 [p.val] K n H := by
  refine ACall.res (fun K' hr => ?_) (by simp) hk
  refine ACall.run Try.func15 rfl Try.ntmps15 Try.results15 (by simp) fun J0 => ?_
  simp (disch := omega) [-hset_if, -Bool.decide_and, hset_ne]
  try rw [show (Value.agg #[.string p.nm, .int .i64 p.per, p.nv, p.dv]).cells.toList = [.string p.nm, .int .i64 p.per, p.nv, p.dv] from rfl]
  have hbx : hset n (.cells [.string p.nm, .int .i64 p.per, p.nv, p.dv] 25 1) H n = .cells [.string p.nm, .int .i64 p.per, p.nv, p.dv] 25 1 := hset_same _ _ _
  have hfr : ∀ i, i < n → hset n (.cells [.string p.nm, .int .i64 p.per, p.nv, p.dv] 25 1) H i = H i := fun i hi => hset_ne (by omega) _ _
  generalize hset n (.cells [.string p.nm, .int .i64 p.per, p.nv, p.dv] 25 1) H = H1 at *
  have hp1 : PrR H1 w0 D p := hp.frame (fun i hi => hfr i (hD i hi))
  have hnb := hp.nb
  simp (disch := omega) [-hset_if, -Bool.decide_and, hset_ne, hbx]
  refine build_ok hp1 (fun i hi => by have := hD i hi; omega) hib ?_ ?_
  · intro n' H' a1 a2 a3
    simp (disch := omega) [-hset_if, -Bool.decide_and, hset_ne]
    exact hr.fin rfl (by omega) (fun i hi => by rw [a2 i (by omega), hfr i hi])
  · intro n' H' G M fv gv a1 a2 a3 a4
    simp (disch := omega) [-hset_if, -Bool.decide_and, hset_ne]
    exact hr.fin (by rw [a3]) (by omega) (fun i hi => by rw [a2 i (by omega), hfr i hi])
theorem FsR.mono {v : Value} {fs : List (List Int)} {D' : Nat → Prop} (h : FsR H w0 D v fs) (hD : ∀ i, D i → D' i) : FsR H w0 D' v fs := by
  obtain ⟨rs, a, b, c⟩ := h
  exact ⟨rs, a, b.mono hD, fun r hr => (c r hr).mono hD⟩
theorem OFeeds_ok (hp : PrR H w0 D p) (hD : ∀ i, D i → i < n) (hib : ∀ d ∈ p.nds, d.lks.length ≤ 1000000)
    (hk : checkP p ≠ 0 → ∀ n' H', n ≤ n' → (∀ i, i < n → H' i = H i) → K (.tuple #[.slice none 0 0, .int .i64 (checkP p)]) n' H')
    (hk2 : checkP p = 0 → ∀ n' H' v, n ≤ n' → (∀ i, i < n → H' i = H i) → FsR H' w0 (fun i => n ≤ i ∧ i < n') v (feedsP p.nds false) → K (.tuple #[v, .int .i64 0]) n' H') : ACall ⟨Try.prog, w0⟩ 14 [p.val] K n H := by
  refine ACall.run Try.func14 rfl Try.ntmps14 Try.results14 (by simp) fun J0 => ?_
  simp (disch := omega) [-hset_if, -Bool.decide_and, hset_ne]
  try rw [show (Value.agg #[.string p.nm, .int .i64 p.per, p.nv, p.dv]).cells.toList = [.string p.nm, .int .i64 p.per, p.nv, p.dv] from rfl]
  have hbx : hset n (.cells [.string p.nm, .int .i64 p.per, p.nv, p.dv] 25 1) H n = .cells [.string p.nm, .int .i64 p.per, p.nv, p.dv] 25 1 := hset_same _ _ _
  have hfr : ∀ i, i < n → hset n (.cells [.string p.nm, .int .i64 p.per, p.nv, p.dv] 25 1) H i = H i := fun i hi => hset_ne (by omega) _ _
  generalize hset n (.cells [.string p.nm, .int .i64 p.per, p.nv, p.dv] 25 1) H = H1 at *
  have hp1 : PrR H1 w0 D p := hp.frame (fun i hi => hfr i (hD i hi))
  have hnb := hp.nb
  simp (disch := omega) [-hset_if, -Bool.decide_and, hset_ne, hbx]
  refine build_ok hp1 (fun i hi => by have := hD i hi; omega) hib ?_ ?_
  · intro n' H' a1 a2 a3
    have a3b : (checkP p != 0) = true := by simpa using a3
    simp (disch := omega) [-hset_if, -Bool.decide_and, hset_ne, a3b]
    refine Fin_id ?_
    exact hk a3 n' H' (by omega) (fun i hi => by rw [a2 i (by omega), hfr i hi])
  · intro n' H' G M fv gv a1 a2 a3 a4
    have hgr := a4.gr
    simp (disch := omega) [-hset_if, -Bool.decide_and, hset_ne, hgr]
    refine Fin_id ?_
    refine hk2 a3 n' H' fv (by omega) (fun i hi => by rw [a2 i (by omega), hfr i hi]) ?_
    have := a4.fs
    rw [links_feeds a3] at this
    exact this.mono (fun i hi => by omega)
end Go.Aw.S25
/-
  Chapter 25: ContainsFunc; what is ready.
-/
namespace Go.Aw.S25
open Go.RowKit Go.Proofs Go.Aw.Tab
set_option linter.unusedSimpArgs false
set_option linter.unusedVariables false
set_option maxRecDepth 10000
set_option maxHeartbeats 1000000
set_option pp.deepTerms false
set_option pp.deepTerms.threshold 4
set_option pp.maxSteps 1500
attribute [local simp] Lk.cells Nd.cells Dr.cells Pg.val intC
variable {w0 : World} {n : Nat} {H : Heap} {K : Value → Nat → Heap → Prop} {p : Pg} {D E : Nat → Prop}
/-- slices.IndexFunc and ContainsFunc over Int. -/
theorem indexInt_ok {v : Value} {D : Nat → Prop} {xs : List Int} {g : FuncId} {caps : Array Value} {p : Int → Bool} (hs : SlR ⟨Try.prog, w0⟩ H D 1 intC v xs) (hD : ∀ i, D i → i < n)
    (hg : ∀ r ∈ xs, ∀ n' H' (K' : Value → Nat → Heap → Prop), n ≤ n' → (∀ i, i < n → H' i = H i) → (∀ n'' H'', n' ≤ n'' → (∀ i, i < n' → H'' i = H' i) → K' (.bool (p r)) n'' H'') → ACall ⟨Try.prog, w0⟩ g (.int .i64 r :: caps.toList) K' n' H')
    (hb : xs.length < 9223372036854775807) (hent : entB Try.prog g = true) (hk : ∀ n' H', n ≤ n' → (∀ i, i < n → H' i = H i) → K (.int .i64 (fidx p xs)) n' H') : ACall ⟨Try.prog, w0⟩ 47 [v, .func (.func g) #[] caps] K n H := by
  refine ACall.run Try.func47 rfl Try.ntmps47 Try.results47 (by simp) fun J0 => ?_
  simp (disch := omega) [-hset_if, -Bool.decide_and, hset_ne, hs.lenK]
  refine AW.while (σ := Nat) (fun j => xs.length - j) (fun j => [(0, v), (1, .func (.func g) #[] caps), (7, .int .i64 xs.length), (8, .int .i64 j)]) (fun j n1 H1 => j ≤ xs.length ∧ n ≤ n1 ∧ (∀ i, i < n → H1 i = H i) ∧ ∀ q, q < j → p (at_ xs (q : Int)) = false) 0 ?_ ?_ ?_
  · simp (disch := omega) [-hset_if, -Bool.decide_and, hset_ne]
  · exact ⟨by omega, Nat.le_refl _, fun _ _ => rfl, fun q hq => by omega⟩
  rintro j n1 H1 ⟨g1, g2, g3, g4⟩
  have hs1 : SlR ⟨Try.prog, w0⟩ H1 D 1 intC v xs := hs.frame (fun i hi => g3 i (hD i hi))
  simp (disch := omega) [-hset_if, -Bool.decide_and, hset_ne]
  refine cif_dec (fun h => ?_) (fun h => ?_)
  · have hx : at_ xs (j : Int) ∈ xs := by rw [at_nat h]; exact List.getElem_mem _
    simp (disch := omega) [-hset_if, -Bool.decide_and, hset_ne, hs1.ix elemS35, hs1.load0 shp3, hent]
    have hc := hg _ hx n1 H1
    refine hc _ g2 g3 ?_
    intro n2 H2 e1 e2
    simp (disch := omega) [-hset_if, -Bool.decide_and, hset_ne]
    refine cif_var (fun hp => ?_) (fun hp => ?_)
    · simp (disch := omega) [-hset_if, -Bool.decide_and, hset_ne]
      refine Fin_id ?_
      rw [fidx_found h hp g4] at hk
      exact hk _ _ (by omega) (fun i hi => by rw [e2 i (by omega), g3 i hi])
    · simp (disch := omega) [-hset_if, -Bool.decide_and, hset_ne]
      refine Next.mk (j + 1) (by first | omega | (simp only; omega)) (by simp (disch := omega) [-hset_if, -Bool.decide_and, hset_ne]) ⟨by omega, by omega, fun i hi => by rw [e2 i (by omega), g3 i hi], fun q hq => ?_⟩
      by_cases e : q < j
      · exact g4 q e
      · obtain rfl : q = j := by omega
        exact hp
  · simp (disch := omega) [-hset_if, -Bool.decide_and, hset_ne]
    refine Fin_id ?_
    rw [fidx_none (fun q hq => g4 q (by omega))] at hk
    exact hk _ _ g2 g3
theorem containsInt_ok {v : Value} {D : Nat → Prop} {xs : List Int} {g : FuncId} {caps : Array Value} {p : Int → Bool} (hs : SlR ⟨Try.prog, w0⟩ H D 1 intC v xs) (hD : ∀ i, D i → i < n)
    (hg : ∀ r ∈ xs, ∀ n' H' (K' : Value → Nat → Heap → Prop), n ≤ n' → (∀ i, i < n → H' i = H i) → (∀ n'' H'', n' ≤ n'' → (∀ i, i < n' → H'' i = H' i) → K' (.bool (p r)) n'' H'') → ACall ⟨Try.prog, w0⟩ g ((.int .i64 r) :: caps.toList) K' n' H')
    (hb : xs.length < 9223372036854775807) (hent : entB Try.prog g = true) (hk : ∀ n' H', n ≤ n' → (∀ i, i < n → H' i = H i) → K (.bool (xs.any p)) n' H') : ACall ⟨Try.prog, w0⟩ 35 [v, .func (.func g) #[] caps] K n H := by
  refine ACall.run Try.func35 rfl Try.ntmps35 Try.results35 (by simp) fun J0 => ?_
  simp (disch := omega) [-hset_if, -Bool.decide_and, hset_ne]
  refine indexInt_ok hs hD hg hb hent ?_
  intro n1 H1 e1 e2
  simp (disch := omega) [-hset_if, -Bool.decide_and, hset_ne]
  refine Fin_id ?_
  rw [fidx_any]
  exact hk _ _ e1 e2
def boolC (b : Bool) : List Value := [.bool b]
attribute [local simp] boolC
theorem at_drop0 {bs : List Bool} {x : Int} (h0 : 0 ≤ x) : ∃ q : Nat, x = (q : Int) := ⟨x.toNat, by omega⟩
theorem notPl_ok {V : Nat} {pl : Value} {bs : List Bool} {x : Int} (hv : H V = .cells [pl] 64 1) (hV : V < n) (hs : SlR ⟨Try.prog, w0⟩ H D 1 boolC pl bs) (h0 : 0 ≤ x) (h1 : x < bs.length) (hk : K (.bool !(at_ bs x)) n H) : ACall ⟨Try.prog, w0⟩ 49 [.int .i64 x, .pointer (some ⟨new V, 0, none⟩)] K n H := by
  refine ACall.res (fun K' hr => ?_) (by simp) hk
  refine ACall.run Try.func49 rfl Try.ntmps49 Try.results49 (by simp) fun J0 => ?_
  simp (disch := omega) [-hset_if, -Bool.decide_and, hset_ne, hv, hs.ix elemS64, hs.load0 shp4]
  exact hr.fin rfl (by omega) (fun i hi => by simp (disch := omega) only [hset_ne])
theorem notPl2_ok {V : Nat} {pl : Value} {bs : List Bool} {x : Int} (hv : H V = .cells [pl] 64 1) (hV : V < n) (hs : SlR ⟨Try.prog, w0⟩ H D 1 boolC pl bs) (h0 : 0 ≤ x) (h1 : x < bs.length) (hk : K (.bool !(at_ bs x)) n H) : ACall ⟨Try.prog, w0⟩ 36 [.int .i64 x, .pointer (some ⟨new V, 0, none⟩)] K n H := by
  refine ACall.res (fun K' hr => ?_) (by simp) hk
  refine ACall.run Try.func36 rfl Try.ntmps36 Try.results36 (by simp) fun J0 => ?_
  simp (disch := omega) [-hset_if, -Bool.decide_and, hset_ne, hv, hs.ix elemS64, hs.load0 shp4]
  exact hr.fin rfl (by omega) (fun i hi => by simp (disch := omega) only [hset_ne])
/-- A node that is ready. -/
def rdyB (bs : List Bool) (f : List Int) (i : Int) : Bool := !(at_ bs i) && !(f.any fun x => !(at_ bs x))
theorem rdy_ok {V W G M : Nat} {pl fv gv : Value} {fs : List (List Int)} {bs : List Bool} {i : Nat} (hv : H V = .cells [pl] 64 1) (hw : H W = .cells [.pointer (some ⟨new G, 0, none⟩)] 57 1) (hg : H G = .cells [.map (some (new M)), fv, gv] 62 1) (hV : V < n) (hW : W < n) (hG : G < n)
    (hs : SlR ⟨Try.prog, w0⟩ H D 1 boolC pl bs) (hD : ∀ i, D i → i < n) (hf : FsR H w0 E fv fs) (hE : ∀ i, E i → i < n) (hi : i < bs.length) (hi2 : i < fs.length) (hl : (at_ fs (i : Int)).length < 1000000) (hr : ∀ x ∈ at_ fs (i : Int), 0 ≤ x ∧ x < bs.length)
    (hk : K (.bool (rdyB bs (at_ fs (i : Int)) i)) n H) : ACall ⟨Try.prog, w0⟩ 48 [.int .i64 (i : Int), .pointer (some ⟨new V, 0, none⟩), .pointer (some ⟨new W, 0, none⟩)] K n H := by
  obtain ⟨rs, rfl, h1, h2⟩ := hf
  rw [List.length_map] at hi2
  have e : at_ (rs.map (·.2)) (i : Int) = (at_ rs (i : Int)).2 := at_map hi2
  rw [e] at hl hr hk
  have h3 := h2 _ (at_mem hi2)
  refine ACall.res (fun K' hr' => ?_) (by simp) hk
  have hent : entB Try.prog 49 = true := by kernel_rfl
  refine ACall.run Try.func48 rfl Try.ntmps48 Try.results48 (by simp) fun J0 => ?_
  cases hb : at_ bs (i : Int) with
  | true =>
    simp (disch := omega) [-hset_if, -Bool.decide_and, hset_ne, hv, hs.ix elemS64, hs.load0 shp4, hb]
    exact hr'.fin (by unfold rdyB; rw [hb]; rfl) (by omega) (fun i hi => by simp (disch := omega) only [hset_ne])
  | false =>
    simp (disch := omega) [-hset_if, -Bool.decide_and, hset_ne, hv, hw, hg, hs.ix elemS64, hs.load0 shp4, hb, h1.ix elemS30, h1.load0 shp35]
    refine containsInt_ok (p := fun x => !(at_ bs x)) h3 hE (fun r hr1 n' H' K' a1 a2 a3 => ?_) (by omega) hent ?_
    · exact notPl_ok (by rw [a2 V hV]; exact hv) (by omega) (hs.frame (fun i hi => a2 i (hD i hi))) (hr r hr1).1 (hr r hr1).2 (a3 _ _ (by omega) (fun _ _ => rfl))
    · intro n' H' a1 a2
      simp (disch := omega) [-hset_if, -Bool.decide_and, hset_ne]
      exact hr'.fin (by unfold rdyB; rw [hb]; rfl) (by omega) a2
end Go.Aw.S25
