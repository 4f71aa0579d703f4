/-
  Chapter 50: the server and the reference's server answer the same.
-/
import Derived.Test.YtfeclhjbkphjdaaS50f
namespace Go.Aw.S50
open Go.RowKit Go.Proofs Go.Aw.Tab
set_option linter.unusedSimpArgs false
set_option linter.unusedVariables false
/-- What the reference knows of a client. -/
def ofC (L : List (Int × Ans)) (c : Int) : List (Int × Ans) := (L.filter fun p => decide (p.1 = c)).map fun p => (p.2.inv, p.2)
theorem ofC_append (L M : List (Int × Ans)) (c : Int) : ofC (L ++ M) c = ofC L c ++ ofC M c := by simp [ofC]
theorem ofC_cons (p : Int × Ans) (L : List (Int × Ans)) (c : Int) : ofC (p :: L) c = if p.1 = c then (p.2.inv, p.2) :: ofC L c else ofC L c := by
  unfold ofC
  by_cases h : p.1 = c <;> simp [h]
theorem ofC_find (L : List (Int × Ans)) (c i : Int) : ((ofC L c).find? fun p => decide (i = p.1)) = (L.find? (sameQ c i)).map fun p => (p.2.inv, p.2) := by
  induction L with
  | nil => rfl
  | cons p L ih =>
    rw [ofC_cons, List.find?_cons]
    by_cases h : p.1 = c
    · rw [if_pos h, List.find?_cons]
      by_cases h2 : i = p.2.inv
      · simp [sameQ, h, h2]
      · have h3 : ¬ p.2.inv = i := fun e => h2 e.symm
        simp only [sameQ, h, h2, h3, decide_true, decide_false, Bool.and_false]
        exact ih
    · rw [if_neg h, ih]
      simp [sameQ, h]
structure Sim (sv : Srv) (m : Int → List (Int × Ans) × Int) (r : RSv) : Prop where
  boot : r.boot = sv.boot
  limit : r.limit = sv.limit
  done : r.done = sv.done
  busy : r.busy = decide (¬ (sv.nowC = 0 ∧ sv.nowI = 0))
  cur : r.busy = true → r.client = sv.nowC ∧ r.now.inv = sv.nowI ∧ ∀ p ∈ (m sv.nowC).1, p.1 ≠ sv.nowI
  mem : ∀ c, (m c).1 = ofC r.ans c
  floor : ∀ c, (m c).2 = floorP r.floors c
theorem Sim.new {b m : Int} : Sim ⟨b, m, 0, 0, 0⟩ (fun _ => ([], 0)) ⟨b, m, [], [], false, 0, ⟨0, 0, ⟨#[]⟩⟩, 0⟩ :=
  ⟨rfl, rfl, rfl, by simp, by simp, fun _ => rfl, fun _ => rfl⟩
theorem Sim.congr {sv : Srv} {m m' : Int → List (Int × Ans) × Int} {r : RSv} (h : Sim sv m r) (e : ∀ c, m' c = m c) : Sim sv m' r := by
  obtain rfl : m' = m := funext e
  exact h
theorem Sim.handle {sv : Srv} {m : Int → List (Int × Ans) × Int} {r : RSv} (h : Sim sv m r) (c : Int) (a : Ask) : (handleP sv (m c) c a).1 = (rHandleP r c a).1 ∧ Sim (handleP sv (m c) c a).2 m (rHandleP r c a).2 := by
  unfold handleP rHandleP
  split
  · exact ⟨rfl, h⟩
  rename_i hb
  rw [h.boot]
  split
  · exact ⟨rfl, h⟩
  rw [h.mem c, ofC_find]
  cases hf : r.ans.find? (sameQ c a.inv) with
  | some p => exact ⟨rfl, h⟩
  | none =>
    dsimp only [Option.map_none]
    rw [h.floor c]
    split
    · exact ⟨rfl, h⟩
    rw [h.busy]
    by_cases hn : sv.nowC = 0 ∧ sv.nowI = 0
    · simp only [hn, and_self, not_true, decide_false, Bool.false_eq_true, if_false]
      refine ⟨trivial, ⟨rfl, h.limit, h.done, ?_, fun _ => ⟨rfl, rfl, fun p hp e => ?_⟩, h.mem, h.floor⟩⟩
      · have : ¬ (c = 0 ∧ a.inv = 0) := by omega
        exact (decide_eq_true this).symm
      · dsimp only at hp
        rw [h.mem c] at hp
        have h1 := ofC_find r.ans c a.inv
        rw [hf, Option.map_none] at h1
        have := List.find?_eq_none.1 h1 p hp
        simp [e] at this
    · simp only [hn, not_false_eq_true, decide_true, if_true]
      exact ⟨trivial, h⟩
theorem scanR_spec (L : List (Int × Ans)) (c : Int) : ∀ j : Nat, j ≤ L.length → (scanR L c j).2 = ((ofC (L.take j) c).length : Int) ∧
    ((scanR L c j).1 < 0 ∧ ofC (L.take j) c = [] ∨ ∃ q : Nat, (scanR L c j).1 = q ∧ q < j ∧ (at_ L (q : Int)).1 = c ∧ (∀ p ∈ ofC (L.take j) c, (at_ L (q : Int)).2.inv ≤ p.1) ∧ ∀ p ∈ ofC (L.take q) c, (at_ L (q : Int)).2.inv < p.1)
  | 0, _ => by simp [scanR, ofC]
  | j + 1, hj => by
    obtain ⟨h1, h2⟩ := scanR_spec L c j (by omega)
    have ht : L.take (j + 1) = L.take j ++ [at_ L (j : Int)] := take_next (by omega)
    have ho : ofC (L.take (j + 1)) c = ofC (L.take j) c ++ (if (at_ L (j : Int)).1 = c then [((at_ L (j : Int)).2.inv, (at_ L (j : Int)).2)] else []) := by
      rw [ht, ofC_append, ofC_cons]; rfl
    by_cases hc : (at_ L (j : Int)).1 = c
    · rw [scanR, if_neg (by simp [hc]), ho, if_pos hc]
      refine ⟨by simp [h1], .inr ?_⟩
      dsimp only
      rcases h2 with ⟨h2, h3⟩ | ⟨q, g1, g2, g3, g4, g5⟩
      · rw [if_pos (.inl h2), h3]
        exact ⟨j, rfl, by omega, hc, by simp, by simp [h3]⟩
      · rw [g1]
        by_cases hlt : (at_ L (j : Int)).2.inv < (at_ L (q : Int)).2.inv
        · rw [if_pos (.inr hlt)]
          refine ⟨j, rfl, by omega, hc, fun p hp => ?_, fun p hp => ?_⟩
          · rcases List.mem_append.1 hp with hp | hp
            · have := g4 p hp; omega
            · simp only [List.mem_cons, List.not_mem_nil, or_false] at hp
              subst hp; exact Int.le_refl _
          · have := g4 p hp; omega
        · rw [if_neg (by omega)]
          refine ⟨q, rfl, by omega, g3, fun p hp => ?_, g5⟩
          rcases List.mem_append.1 hp with hp | hp
          · exact g4 p hp
          · simp only [List.mem_cons, List.not_mem_nil, or_false] at hp
            subst hp; dsimp only; omega
    · rw [scanR, if_pos hc, ho, if_neg hc, List.append_nil]
      refine ⟨h1, ?_⟩
      rcases h2 with h2 | ⟨q, g1, g2, g3, g4, g5⟩
      · exact .inl h2
      · exact .inr ⟨q, g1, by omega, g3, g4, g5⟩
theorem floorP_append (l : List (Int × Int)) (k x c : Int) : floorP (l ++ [(k, x)]) c = if k = c then max (floorP l c) x else floorP l c := by
  unfold floorP
  rw [List.foldl_append]
  rfl
theorem Sim.finish {sv : Srv} {m : Int → List (Int × Ans) × Int} {r : RSv} (h : Sim sv m r) (hlim : 0 ≤ sv.limit) (code : Int) (data : ByteArray) : (finP sv code data m).1 = (rFinP r code data).1 ∧ Sim (finP sv code data m).2.1 (finP sv code data m).2.2 (rFinP r code data).2 := by
  unfold finP rFinP
  by_cases hn : sv.nowC = 0 ∧ sv.nowI = 0
  · have hb : r.busy = false := by rw [h.busy]; simp [hn]
    rw [if_pos hn, if_pos hb]
    exact ⟨rfl, h⟩
  have hb : r.busy = true := by rw [h.busy]; simp [hn]
  obtain ⟨c1, c2, c3⟩ := h.cur hb
  rw [if_neg hn, if_neg (show ¬ r.busy = false by simp [hb])]
  split
  · exact ⟨rfl, h⟩
  have ha : finA sv code data = rA r code data := by unfold finA rA; rw [h.boot, c2]
  have hk2 : (rA r code data).inv = sv.nowI := c2
  refine ⟨by rw [ha], ?_⟩
  have hL : ofC (rL r code data) sv.nowC = (m sv.nowC).1 ++ [(sv.nowI, finA sv code data)] := by
    unfold rL
    rw [ofC_append, h.mem, ofC_cons, if_pos c1, ha]
    simp only [ofC, List.filter_nil, List.map_nil, hk2]
  have hLo : ∀ c, c ≠ sv.nowC → ofC (rL r code data) c = (m c).1 := fun c hc => by
    unfold rL
    rw [ofC_append, h.mem, ofC_cons, if_neg (by rw [c1]; exact fun e => hc e.symm)]
    simp [ofC]
  obtain ⟨s1, s2⟩ := scanR_spec (rL r code data) r.client (rL r code data).length (Nat.le_refl _)
  rw [List.take_length] at s1 s2
  have hrs : scanR (rL r code data) r.client (rL r code data).length = rS r code data := rfl
  rw [hrs, c1, hL] at s1 s2
  by_cases hlt : r.limit < (rS r code data).2
  · rw [if_pos hlt]
    have hlt' : sv.limit < (((m sv.nowC).1 ++ [(sv.nowI, finA sv code data)]).length : Int) := by rw [← s1, ← h.limit]; exact hlt
    rcases s2 with ⟨_, s2⟩ | ⟨q, q1, q2, q3, q4, q5⟩
    · simp at s2
    have hq : q < (rL r code data).length := q2
    generalize hx : at_ (rL r code data) (q : Int) = x at *
    have hsplit : rL r code data = (rL r code data).take q ++ x :: (rL r code data).drop (q + 1) := by
      rw [← hx, ← drop_at hq, List.take_append_drop]
    have hmin : leastK sv.nowI ((m sv.nowC).1 ++ [(sv.nowI, finA sv code data)]) = x.2.inv := by
      refine leastK_uniq ?_ q4 (.inr ?_)
      · exact q4 (sv.nowI, finA sv code data) (by simp)
      · refine ⟨(x.2.inv, x.2), ?_, rfl⟩
        rw [← hL, hsplit, ofC_append, ofC_cons, if_pos q3]
        simp
    have hcutA : (rCut r code data).ans = (rL r code data).take q ++ (rL r code data).drop (q + 1) := by
      unfold rCut; dsimp only; rw [q1]; rfl
    have hcutF : (rCut r code data).floors = r.floors ++ [(sv.nowC, x.2.inv)] := by
      unfold rCut; dsimp only; rw [q1, hx, c1]
    refine ⟨h.boot, h.limit, ?_, ?_, fun hx => ?_, fun c => ?_, fun c => ?_⟩
    · show r.done + 1 = sv.done + 1
      rw [h.done]
    · simp [rCut]
    · simp [rCut] at hx
    · rw [hcutA, ofC_append]
      dsimp only
      by_cases hc : c = sv.nowC
      · subst hc
        rw [if_pos rfl]
        unfold memP
        rw [if_pos hlt', hmin]
        dsimp only
        rw [← hL]
        conv => lhs; rw [hsplit]
        rw [ofC_append, ofC_cons, if_pos q3, List.eraseP_append_right _ (fun p hp => ?_), List.eraseP_cons_of_pos (by simp)]
        have := q5 p hp
        simp only [decide_eq_true_eq]
        omega
      · rw [if_neg hc, ← hLo c hc]
        conv => lhs; rw [hsplit]
        rw [ofC_append, ofC_cons, if_neg (by rw [q3]; exact fun e => hc e.symm)]
    · rw [hcutF, floorP_append]
      dsimp only
      by_cases hc : c = sv.nowC
      · subst hc
        rw [if_pos rfl, if_pos rfl]
        unfold memP
        rw [if_pos hlt', hmin]
        dsimp only
        rw [h.floor]
      · rw [if_neg hc, if_neg (fun e => hc e.symm)]
        exact h.floor c
  · rw [if_neg hlt]
    have hlt' : ¬ sv.limit < (((m sv.nowC).1 ++ [(sv.nowI, finA sv code data)]).length : Int) := by rw [← s1, ← h.limit]; exact hlt
    refine ⟨h.boot, h.limit, ?_, ?_, fun hx => ?_, fun c => ?_, fun c => ?_⟩
    · show r.done + 1 = sv.done + 1
      rw [h.done]
    · simp [rBase]
    · simp [rBase] at hx
    · show _ = ofC (rL r code data) c
      dsimp only
      by_cases hc : c = sv.nowC
      · subst hc
        rw [if_pos rfl, hL]
        unfold memP
        rw [if_neg hlt']
      · rw [if_neg hc, hLo c hc]
    · show _ = floorP r.floors c
      dsimp only
      by_cases hc : c = sv.nowC
      · subst hc
        rw [if_pos rfl]
        unfold memP
        rw [if_neg hlt']
        exact h.floor _
      · rw [if_neg hc]
        exact h.floor c
/-- The sizes of what a server remembers. -/
structure Few (k : Nat) (r : RSv) : Prop where
  ans : r.ans.length ≤ k
  floors : r.floors.length ≤ k
  done : 0 ≤ r.done ∧ r.done ≤ k
theorem Few.handle {k : Nat} {r : RSv} (h : Few k r) (c : Int) (a : Ask) : Few (k + 1) (rHandleP r c a).2 ∧ (rHandleP r c a).2.limit = r.limit := by
  have h1 : Few (k + 1) r := ⟨by have := h.ans; omega, by have := h.floors; omega, by have := h.done; omega⟩
  unfold rHandleP
  split
  · exact ⟨h1, rfl⟩
  split
  · exact ⟨h1, rfl⟩
  split
  · exact ⟨h1, rfl⟩
  split
  · exact ⟨h1, rfl⟩
  split
  · exact ⟨h1, rfl⟩
  · exact ⟨⟨h1.ans, h1.floors, h1.done⟩, rfl⟩
theorem Few.finish {k : Nat} {r : RSv} (h : Few k r) (code : Int) (data : ByteArray) : Few (k + 1) (rFinP r code data).2 ∧ (rFinP r code data).2.limit = r.limit := by
  have h1 : Few (k + 1) r := ⟨by have := h.ans; omega, by have := h.floors; omega, by have := h.done; omega⟩
  have hl : (rL r code data).length = r.ans.length + 1 := by simp [rL]
  unfold rFinP
  split
  · exact ⟨h1, rfl⟩
  split
  · exact ⟨h1, rfl⟩
  dsimp only
  split
  · refine ⟨⟨?_, ?_, ?_⟩, rfl⟩
    · have := h.ans
      simp only [rCut, List.length_append, List.length_take, List.length_drop]
      omega
    · have := h.floors
      simp [rCut]; omega
    · have := h.done
      simp only [rCut]; omega
  · refine ⟨⟨?_, h1.floors, ?_⟩, rfl⟩
    · have := h.ans
      simp only [rBase]; omega
    · have := h.done
      simp only [rBase]; omega
theorem ofC_len (L : List (Int × Ans)) (c : Int) : (ofC L c).length ≤ L.length := by
  unfold ofC
  rw [List.length_map]
  exact List.length_filter_le _ _
end Go.Aw.S50
