/-
  The abstract machine, part 20: maps of the program's own, as lists of keys and values.
-/
import Derived.Test.YtmjhbococmnppaaAw9
set_option linter.unusedSimpArgs false
set_option linter.unusedVariables false
set_option linter.unusedSectionVars false
namespace Go.Aw
open Go.RowKit
/-- The object j is a map with the keys and values kv (in the order in which the keys came). -/
def MapG {κ : Type} (f : κ → Value) (H : Heap) (j : Nat) (kv : List (κ × Value)) : Prop :=
  ∃ es clock, H j = .map es clock ∧ es.map (fun e => (e.key, e.val)) = kv.map (fun p => (f p.1, p.2)) ∧ (es.map fun e => e.born).Nodup ∧ ∀ e ∈ es, e.born < clock
/-- What a lookup gives. -/
def lkG {κ : Type} (ok : Bool) (z : Value) (r : Option (κ × Value)) : Value :=
  match r with
  | some p => if ok then .tuple #[p.2, .bool true] else p.2
  | none => if ok then .tuple #[z, .bool false] else z
section
variable {κ : Type} [DecidableEq κ] {f : κ → Value} {C : Ctx} {H : Heap} {j : Nat} {kv : List (κ × Value)} {t kt et : TypeId} {z : Value} {ok : Bool}
theorem kv_find (hf : ∀ a b, keyIs (f a) (f b) = decide (a = b)) {x : κ} : ∀ {es : List MapEntry} {kv : List (κ × Value)} {i : Nat}, es.map (fun e => (e.key, e.val)) = kv.map (fun p => (f p.1, p.2)) →
    (findE (f x) es i).map (fun r => r.2.val) = (kv.find? fun p => decide (x = p.1)).map fun p => p.2
  | [], [], i, _ => rfl
  | [], _ :: _, _, h => by simp at h
  | _ :: _, [], _, h => by simp at h
  | e :: es, p :: kv, i, h => by
    simp only [List.map_cons, List.cons.injEq, Prod.mk.injEq] at h
    obtain ⟨⟨h1, h2⟩, h3⟩ := h
    rw [findE, List.find?_cons, h1, hf]
    by_cases hx : x = p.1
    · simp [hx, h2]
    · simp only [hx, decide_false, Bool.false_eq_true, if_false]
      exact kv_find hf h3
theorem kv_keys {es : List MapEntry} {kv : List (κ × Value)} (h : es.map (fun e => (e.key, e.val)) = kv.map (fun p => (f p.1, p.2))) : ∀ e ∈ es, ∃ b, e.key = f b := fun e he => by
  have : (e.key, e.val) ∈ es.map (fun e => (e.key, e.val)) := List.mem_map_of_mem he
  rw [h] at this
  obtain ⟨p, _, hp⟩ := List.mem_map.1 this
  exact ⟨p.1, (Prod.mk.inj hp).1.symm⟩
theorem MapG.look (h : MapG f H j kv) (hf : ∀ a b, keyIs (f a) (f b) = decide (a = b)) {x : κ} (ht : mapT C.P t = some (kt, et)) (hz : zeroV C.P et = some z) (hk : ∀ es : List MapEntry, (∀ e ∈ es, ∃ b, e.key = f b) → KeysOk C.P kt (f x) es) {k : Value → Prop} :
    lookK C H t (.map (some (new j))) (f x) ok k = k (lkG ok z (kv.find? fun p => decide (x = p.1))) := by
  obtain ⟨es, clock, hj, he, _, _⟩ := h
  rw [lookK_own hj ht hz (hk es (kv_keys he))]
  congr 1
  have := kv_find (x := x) hf (i := 0) he
  unfold lkV lkG
  cases h1 : findE (f x) es 0 with
  | none =>
    cases h2 : kv.find? (fun p => decide (x = p.1)) with
    | none => rfl
    | some p => rw [h1, h2] at this; simp at this
  | some r =>
    cases h2 : kv.find? (fun p => decide (x = p.1)) with
    | none => rw [h1, h2] at this; simp at this
    | some p =>
      rw [h1, h2] at this
      simp only [Option.map_some, Option.some.injEq] at this
      obtain ⟨i, e⟩ := r
      dsimp only at this ⊢
      rw [this]
theorem MapG.new0 {c : Nat} (h : H j = .map [] c) : MapG f H j [] := ⟨[], c, h, rfl, by simp, by simp⟩
theorem MapG.frame {H' : Heap} (h : MapG f H j kv) (hj : H' j = H j) : MapG f H' j kv := by
  obtain ⟨es, c, h1, h2⟩ := h
  exact ⟨es, c, by rw [hj]; exact h1, h2⟩
/-- A new key is added. -/
theorem MapG.add (h : MapG f H j kv) (hf : ∀ a b, keyIs (f a) (f b) = decide (a = b)) {x : κ} {v : Value} (hn : ∀ p ∈ kv, p.1 ≠ x) (ht : mapT C.P t = some (kt, et)) (hk : ∀ es : List MapEntry, (∀ e ∈ es, ∃ b, e.key = f b) → KeysOk C.P kt (f x) es) {k : Heap → Prop}
    (hc : ∀ o, MapG f (hset j o H) j (kv ++ [(x, v)]) → k (hset j o H)) : updK C H t (.map (some (new j))) (f x) v k := by
  obtain ⟨es, clock, hj, he, hb, hl⟩ := h
  have h0 : findE (f x) es 0 = none := by
    have := kv_find (x := x) hf (i := 0) he
    rw [List.find?_eq_none.2 (fun p hp => by have := hn p hp; simp; exact fun e => this e.symm)] at this
    simpa using this
  refine updK_own hj ht (hk es (kv_keys he)) (hc _ ⟨_, _, hset_same _ _ _, ?_, ?_, ?_⟩)
  · unfold updE; rw [h0]; simp [he]
  · unfold updE; rw [h0]
    simp only [List.map_append, List.map_cons, List.map_nil]
    rw [List.nodup_append]
    refine ⟨hb, by simp, ?_⟩
    intro a ha b hbm e
    obtain ⟨y, hy, rfl⟩ := List.mem_map.1 ha
    simp only [List.mem_cons, List.not_mem_nil, or_false] at hbm
    have := hl y hy
    omega
  · intro e he2
    have hcl : updC (f x) es clock = clock + 1 := by unfold updC; rw [h0]
    rw [hcl]
    unfold updE at he2; rw [h0] at he2
    simp only [List.mem_append, List.mem_cons, List.not_mem_nil, or_false] at he2
    rcases he2 with he2 | rfl
    · have := hl e he2; omega
    · simp
theorem kv_erase (hf : ∀ a b, keyIs (f a) (f b) = decide (a = b)) {x : κ} : ∀ {es : List MapEntry} {kv : List (κ × Value)} {i m : Nat} {e : MapEntry}, es.map (fun e => (e.key, e.val)) = kv.map (fun p => (f p.1, p.2)) → findE (f x) es i = some (m, e) →
    i ≤ m ∧ (es.eraseIdx (m - i)).map (fun e => (e.key, e.val)) = (kv.eraseP fun p => decide (x = p.1)).map (fun p => (f p.1, p.2))
  | [], _, _, _, _, _, h => by simp [findE] at h
  | _ :: _, [], _, _, _, h, _ => by simp at h
  | y :: es, p :: kv, i, m, e, h, hfi => by
    simp only [List.map_cons, List.cons.injEq, Prod.mk.injEq] at h
    obtain ⟨⟨h1, h2⟩, h3⟩ := h
    rw [findE, h1, hf] at hfi
    by_cases hx : x = p.1
    · simp only [hx, decide_true, if_true, Option.some.injEq, Prod.mk.injEq] at hfi
      obtain ⟨rfl, rfl⟩ := hfi
      rw [List.eraseP_cons_of_pos (by simpa using hx), Nat.sub_self, List.eraseIdx_cons_zero]
      exact ⟨Nat.le_refl _, h3⟩
    · simp only [hx, decide_false, Bool.false_eq_true, if_false] at hfi
      obtain ⟨g1, g2⟩ := kv_erase hf h3 hfi
      rw [List.eraseP_cons_of_neg (by simpa using hx), show m - i = (m - (i + 1)) + 1 by omega, List.eraseIdx_cons_succ]
      refine ⟨by omega, ?_⟩
      simp only [List.map_cons, h1, h2, g2]
/-- A key is deleted. -/
theorem MapG.del (h : MapG f H j kv) (hf : ∀ a b, keyIs (f a) (f b) = decide (a = b)) {x : κ} (ht : mapT C.P t = some (kt, et)) (hk : ∀ es : List MapEntry, (∀ e ∈ es, ∃ b, e.key = f b) → KeysOk C.P kt (f x) es) {k : Heap → Prop}
    (hc : ∀ o, MapG f (hset j o H) j (kv.eraseP fun p => decide (x = p.1)) → k (hset j o H)) : delK C H t (.map (some (new j))) (f x) k := by
  obtain ⟨es, clock, hj, he, hb, hl⟩ := h
  refine delK_own hj ht (hk es (kv_keys he)) (hc _ ⟨_, _, hset_same _ _ _, ?_, ?_, ?_⟩)
  · unfold delE
    split
    · rename_i i e h0
      have := (kv_erase hf he h0).2
      rw [Nat.sub_zero] at this
      exact this
    · rename_i h0
      have h2 := kv_find (x := x) hf (i := 0) he
      rw [h0] at h2
      have h3 : kv.find? (fun p => decide (x = p.1)) = none := by
        cases h4 : kv.find? (fun p => decide (x = p.1)) with
        | none => rfl
        | some p => rw [h4] at h2; simp at h2
      rw [List.eraseP_of_forall_not (fun p hp => List.find?_eq_none.1 h3 p hp)]
      exact he
  · unfold delE
    split
    · exact hb.sublist ((List.eraseIdx_sublist _ _).map _)
    · exact hb
  · intro e he2
    unfold delE at he2
    split at he2
    · exact hl e (List.mem_of_mem_eraseIdx he2)
    · exact hl e he2
theorem MapG.len (h : MapG f H j kv) : lenHK H .map (.map (some (new j))) = some (kv.length : Int) := by
  obtain ⟨es, c, h1, h2, _⟩ := h
  rw [lenHK_new, h1, lenO_map]
  have := congrArg List.length h2
  simp only [List.length_map] at this
  rw [this]
/-- The iterator i over the map j has still to meet rest. -/
def RngG {κ : Type} (f : κ → Value) (H : Heap) (i j : Nat) (kv rest : List (κ × Value)) : Prop :=
  ∃ es clock seen, H j = .map es clock ∧ es.map (fun e => (e.key, e.val)) = kv.map (fun p => (f p.1, p.2)) ∧ (es.map fun e => e.born).Nodup ∧ (∀ e ∈ es, e.born < clock) ∧ H i = .iter (some j) clock seen clock ∧
    (es.filter fun e => decide (e.born ∉ seen)).map (fun e => (e.key, e.val)) = rest.map (fun p => (f p.1, p.2))
theorem MapG.range (h : MapG f H j kv) (ht : mapT C.P t = some (kt, et)) {k : AObj → Prop} (hk : ∀ o, (∀ H' i, H' i = o → H' j = H j → RngG f H' i j kv kv) → k o) : rangeK C H t (.map (some (new j))) k := by
  obtain ⟨es, c, h1, h2, h3, h4⟩ := h
  refine rangeK_own h1 ht (hk _ fun H' i hi hj => ⟨es, c, [], by rw [hj]; exact h1, h2, h3, h4, hi, ?_⟩)
  rw [List.filter_eq_self.2 (by simp)]
  exact h2
theorem RngG.map {i : Nat} {rest : List (κ × Value)} (h : RngG f H i j kv rest) : MapG f H j kv := by
  obtain ⟨es, c, seen, h1, h2, h3, h4, _⟩ := h
  exact ⟨es, c, h1, h2, h3, h4⟩
theorem RngG.sub {i : Nat} {rest : List (κ × Value)} (h : RngG f H i j kv rest) (hf : ∀ a b, keyIs (f a) (f b) = decide (a = b)) : ∀ q ∈ rest, q ∈ kv := by
  obtain ⟨es, c, seen, h1, h2, h3, h4, h5, h6⟩ := h
  intro q hq
  have h7 : (f q.1, q.2) ∈ rest.map (fun p => (f p.1, p.2)) := List.mem_map.2 ⟨q, hq, rfl⟩
  rw [← h6] at h7
  have h8 : (f q.1, q.2) ∈ es.map fun e => (e.key, e.val) := by
    obtain ⟨e, he, h⟩ := List.mem_map.1 h7
    exact List.mem_map.2 ⟨e, (List.mem_filter.1 he).1, h⟩
  rw [h2] at h8
  obtain ⟨p, hp, h⟩ := List.mem_map.1 h8
  have e1 : f p.1 = f q.1 := (Prod.mk.inj h).1
  have e2 : p.2 = q.2 := (Prod.mk.inj h).2
  have e3 : p.1 = q.1 := by
    have := hf p.1 q.1
    rw [e1, hf] at this
    simpa using this
  have : p = q := Prod.ext e3 e2
  exact this ▸ hp
theorem RngG.frame {i : Nat} {rest : List (κ × Value)} {H' : Heap} (h : RngG f H i j kv rest) (hi : H' i = H i) (hj : H' j = H j) : RngG f H' i j kv rest := by
  obtain ⟨es, c, seen, h1, h2, h3, h4, h5, h6⟩ := h
  exact ⟨es, c, seen, by rw [hj]; exact h1, h2, h3, h4, by rw [hi]; exact h5, h6⟩
theorem RngG.next {i : Nat} {rest : List (κ × Value)} (h : RngG f H i j kv rest) (hij : i ≠ j) {k : Value → Heap → Prop} (h1 : rest = [] → k (.tuple #[.bool false]) H)
    (h2 : ∀ r1 p r2 o, rest = r1 ++ p :: r2 → RngG f (hset i o H) i j kv (r1 ++ r2) → (∀ k' : Value → Prop, k' (.tuple #[f p.1, p.2]) → entryK (hset i o H) (.pointer (some ⟨new i, 0, none⟩)) k') → k (.tuple #[.bool true, f p.1, p.2]) (hset i o H)) : nextK H (.pointer (some ⟨new i, 0, none⟩)) k := by
  obtain ⟨es, c, seen, g1, g2, g3, g4, g5, g6⟩ := h
  refine nextK_own g5 g1 (fun ⟨_, a2, a3⟩ => ?_) (fun a => ?_) (fun e he hs => ?_)
  · obtain ⟨e, l, rfl⟩ := List.exists_cons_of_ne_nil a2
    have b1 := a3 e (List.mem_cons_self ..)
    have b2 := g4 e (List.mem_cons_self ..)
    omega
  · refine h1 ?_
    have : (es.filter fun e => decide (e.born ∉ seen)) = [] := by
      rw [List.filter_eq_nil_iff]
      intro e he hc
      exact a e he (by simpa using hc) (g4 e he)
    rw [this] at g6
    simpa using g6.symm
  · have hm : e ∈ es.filter fun e => decide (e.born ∉ seen) := List.mem_filter.2 ⟨he, by simpa using hs⟩
    obtain ⟨l1, l2, hl⟩ := List.append_of_mem hm
    rw [hl] at g6
    simp only [List.map_append, List.map_cons] at g6
    obtain ⟨r1, q, hr, e1, hq⟩ := List.map_eq_append_iff.1 g6.symm
    obtain ⟨p, r2, rfl, e2, e3⟩ := List.map_eq_cons_iff.1 hq
    obtain ⟨k1, k2⟩ := Prod.mk.inj e2
    have hn : ((es.filter fun e => decide (e.born ∉ seen)).map fun e => e.born).Nodup := g3.sublist (List.filter_sublist.map _)
    rw [hl] at hn
    have hgo := h2 r1 p r2 (.iter (some j) c (seen ++ [e.born]) c) hr ⟨es, c, seen ++ [e.born], by rw [hset_ne (Ne.symm hij)]; exact g1, g2, g3, g4, hset_same _ _ _, ?_⟩ (fun k' hk' => ?_)
    · rw [k1, k2] at hgo
      exact hgo
    · have hff : (es.filter fun x => decide (x.born ∉ seen ++ [e.born])) = (es.filter fun x => decide (x.born ∉ seen)).filter fun x => decide (x.born ≠ e.born) := by
        rw [List.filter_filter]
        congr 1
        funext x
        simp [not_or, and_comm]
      rw [hff, hl]
      simp only [List.map_append, List.map_cons, List.nodup_append, List.nodup_cons, List.mem_map, List.mem_cons] at hn
      have f1 : l1.filter (fun x => decide (x.born ≠ e.born)) = l1 := by
        rw [List.filter_eq_self]
        intro x hx
        have := hn.2.2 x.born ⟨x, hx, rfl⟩ e.born (.inl rfl)
        simpa using this
      have f2 : l2.filter (fun x => decide (x.born ≠ e.born)) = l2 := by
        rw [List.filter_eq_self]
        intro x hx
        have := hn.2.1.1
        simp only [decide_eq_true_eq]
        intro e5
        exact this ⟨x, hx, e5⟩
      rw [List.filter_append, List.filter_cons_of_neg (by simp), f1, f2, List.map_append, List.map_append, e1, e3]
    · have hfind : es.find? (fun x => x.born == e.born) = some e := by
        obtain ⟨m1, m2, hme⟩ := List.append_of_mem he
        rw [hme] at g3 ⊢
        simp only [List.map_append, List.map_cons, List.nodup_append, List.mem_map, List.mem_cons] at g3
        rw [List.find?_append]
        have : m1.find? (fun x => x.born == e.born) = none := by
          rw [List.find?_eq_none]
          intro x hx
          have := g3.2.2 x.born ⟨x, hx, rfl⟩ e.born (.inl rfl)
          simpa using this
        rw [this]
        simp
      rw [k1, k2] at hk'
      exact entryK_own (hset_same _ _ _) (by simp) (by rw [hset_ne (Ne.symm hij)]; exact g1) hfind hk'
end
end Go.Aw
