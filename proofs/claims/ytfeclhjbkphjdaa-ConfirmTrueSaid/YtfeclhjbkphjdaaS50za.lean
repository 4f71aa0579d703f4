/-
  Chapter 50: outcomes are true.
-/
import Derived.Test.YtfeclhjbkphjdaaS50y
namespace Go.Aw.S50
open Go.RowKit Go.Proofs Go.Aw.Tab
set_option linter.unusedSimpArgs false
set_option linter.unusedVariables false
/-- The data of a request. -/
def dOf (l : List (Int × ByteArray)) (i : Int) : ByteArray := ((l.find? fun q => decide (i = q.1)).map Prod.snd).getD ⟨#[]⟩
theorem dOf_old {l : List (Int × ByteArray)} {k i : Int} {v : ByteArray} (h : i ≠ k) : dOf (l ++ [(k, v)]) i = dOf l i := by
  unfold dOf
  rw [List.find?_append]
  cases l.find? (fun q => decide (i = q.1)) with
  | some q => rfl
  | none => simp [h]
theorem dOf_new {l : List (Int × ByteArray)} {k : Int} {v : ByteArray} (h : ∀ q ∈ l, q.1 ≠ k) : dOf (l ++ [(k, v)]) k = v := by
  unfold dOf
  rw [List.find?_append, List.find?_eq_none.2 (fun q hq => by have := h q hq; simp; exact fun e => this e.symm)]
  simp
theorem dOf_none {l : List (Int × ByteArray)} {i : Int} (h : ∀ q ∈ l, q.1 ≠ i) : dOf l i = ⟨#[]⟩ := by
  unfold dOf
  rw [List.find?_eq_none.2 (fun q hq => by have := h q hq; simp; exact fun e => this e.symm)]
  rfl
/-- All requests of a client: those that are pending, those that have their outcomes. -/
def allInv (c : Cl) : List Int := c.opn.map (·.inv) ++ c.done.map (·.inv)
structure Tr (p : NP) : Prop where
  nd : (allInv p.c).Nodup
  le : ∀ i ∈ allInv p.c, 1 ≤ i ∧ i ≤ p.c.sent
  sent : 0 ≤ p.c.sent
  keys : ∀ q ∈ p.data, 1 ≤ q.1 ∧ q.1 ≤ p.c.sent
  pd : ∀ w ∈ p.c.opn, dOf p.data w.inv = w.data
  ad : ∀ a ∈ p.asks, dOf p.data a.inv = a.data ∧ a.inv ≤ p.c.sent
  ag : ∀ x ∈ p.answers, x ∈ p.given
  gi : ∀ x ∈ p.given, x.inv ≤ p.c.sent ∧ (x.code = 0 → x.data = dOf p.data x.inv ++ dOf p.data x.inv)
  mm : ∀ q ∈ (p.m 1).1, q.2 ∈ p.given
  dn : ∀ x ∈ p.c.done, x.code = 17 ∨ x.code = 15 ∨ x ∈ p.given
theorem Tr.start (a b : Int) : Tr (startP a b) := ⟨by simp [startP, allInv], by simp [startP, allInv], by simp [startP], by simp [startP], by simp [startP], by simp [startP], by simp [startP], by simp [startP], by simp [startP], by simp [startP]⟩
theorem Tr.send {p : NP} (h : Tr p) (data : ByteArray) : Tr (sendN p data) := by
  have hcase : ((sendP p.c data).1.2 = 0 → (sendP p.c data).1.1 = (newW p.c data).ask ∧ (sendP p.c data).2 = { p.c with sent := p.c.sent + 1, opn := p.c.opn ++ [newW p.c data] }) ∧ ((sendP p.c data).1.2 ≠ 0 → (sendP p.c data).2 = p.c) := by
    unfold sendP
    split
    · simp
    split
    · simp
    · exact ⟨fun _ => ⟨rfl, rfl⟩, fun e => absurd rfl e⟩
  unfold sendN
  split
  · rename_i e
    obtain ⟨e2, e3⟩ := hcase.1 e
    rw [e2, e3]
    have hne : ∀ i, i ≤ p.c.sent → i ≠ p.c.sent + 1 := fun i hi => by omega
    have hnew : ∀ q ∈ p.data, q.1 ≠ p.c.sent + 1 := fun q hq => hne _ (h.keys q hq).2
    have hop : ∀ w ∈ p.c.opn, w.inv ≤ p.c.sent := fun w hw => (h.le w.inv (by unfold allInv; simp; exact .inl ⟨w, hw, rfl⟩)).2
    have hperm : (allInv { p.c with sent := p.c.sent + 1, opn := p.c.opn ++ [newW p.c data] }).Perm ((p.c.sent + 1) :: allInv p.c) := by
      unfold allInv
      simp only [List.map_append, List.map_cons, List.map_nil, List.append_assoc]
      exact List.perm_middle
    refine ⟨?_, fun i hi => ?_, by have := h.sent; dsimp only; omega, fun q hq => ?_, fun w hw => ?_, fun a ha => ?_, h.ag, fun x hx => ?_, h.mm, h.dn⟩
    · refine hperm.nodup_iff.2 ?_
      rw [List.nodup_cons]
      exact ⟨fun hm => by have := (h.le _ hm).2; omega, h.nd⟩
    · rcases List.mem_cons.1 (hperm.mem_iff.1 hi) with e | hi
      · have := h.sent; dsimp only; omega
      · have := h.le i hi; dsimp only; omega
    · rcases List.mem_append.1 hq with hq | hq
      · have := h.keys q hq; dsimp only; omega
      · simp only [List.mem_cons, List.not_mem_nil, or_false] at hq
        rw [hq]
        have := h.sent
        simp only [newW, Wt.ask]; omega
    · rcases List.mem_append.1 hw with hw | hw
      · show dOf (p.data ++ [(p.c.sent + 1, data)]) w.inv = w.data
        rw [dOf_old (hne _ (hop w hw))]; exact h.pd w hw
      · simp only [List.mem_cons, List.not_mem_nil, or_false] at hw
        rw [hw]
        exact dOf_new hnew
    · rcases List.mem_append.1 ha with ha | ha
      · have := h.ad a ha
        refine ⟨?_, by dsimp only; omega⟩
        show dOf (p.data ++ [(p.c.sent + 1, data)]) a.inv = a.data
        rw [dOf_old (hne _ this.2)]; exact this.1
      · simp only [List.mem_cons, List.not_mem_nil, or_false] at ha
        rw [ha]
        exact ⟨dOf_new hnew, Int.le_refl _⟩
    · have := h.gi x hx
      refine ⟨by dsimp only; omega, fun e => ?_⟩
      show x.data = dOf (p.data ++ [(p.c.sent + 1, data)]) x.inv ++ dOf (p.data ++ [(p.c.sent + 1, data)]) x.inv
      rw [dOf_old (hne _ this.1)]; exact this.2 e
  · rename_i e
    rw [hcase.2 e]
    exact ⟨h.nd, h.le, h.sent, h.keys, h.pd, h.ad, h.ag, h.gi, h.mm, h.dn⟩
theorem tk_perm (c : Cl) : ∀ l : List Wt, ((tkW c l).map (·.inv) ++ (tkD c l).map (·.inv)).Perm (l.map (·.inv))
  | [] => List.Perm.refl _
  | w :: l => by
    have ih := tk_perm c l
    have h1 : ((tk1 c.pat c.ret w).1.toList.map (·.inv)) ++ ((tk1 c.pat c.ret w).2.2.toList.map (·.inv)) = [w.inv] := by
      unfold tk1
      split
      · rfl
      · split <;> rfl
    have e1 : tkW c (w :: l) = (tk1 c.pat c.ret w).1.toList ++ tkW c l := by unfold tkW; rw [List.filterMap_cons]; split <;> simp_all
    have e2 : tkD c (w :: l) = (tk1 c.pat c.ret w).2.2.toList ++ tkD c l := by unfold tkD; rw [List.filterMap_cons]; split <;> simp_all
    rw [e1, e2, List.map_append, List.map_append, List.map_cons]
    refine List.Perm.trans ?_ (List.Perm.append_left [w.inv] ih)
    rw [← h1, List.append_assoc, List.append_assoc]
    refine List.Perm.append_left _ ?_
    rw [← List.append_assoc, ← List.append_assoc]
    exact List.Perm.append_right _ List.perm_append_comm
theorem tkD_code {c : Cl} {l : List Wt} {x : Ans} (h : x ∈ tkD c l) : x.code = 17 := by
  simp only [tkD, List.mem_filterMap] at h
  obtain ⟨w, hw, e⟩ := h
  unfold tk1 at e
  split at e
  · cases e
  · split at e
    · simp only [Option.some.injEq] at e; subst e; rfl
    · cases e
theorem Tr.tick {p : NP} (h : Tr p) : Tr (tickN p) := by
  have hperm : (allInv (tickP p.c).2).Perm (allInv p.c) := by
    unfold allInv
    simp only [tickP, List.map_append]
    refine List.Perm.trans ?_ (List.Perm.append_right _ (tk_perm p.c p.c.opn))
    rw [List.append_assoc]
    exact List.Perm.append_left _ List.perm_append_comm
  refine ⟨hperm.nodup_iff.2 h.nd, fun i hi => h.le i (hperm.mem_iff.1 hi), h.sent, h.keys, fun w hw => ?_, fun a ha => ?_, h.ag, h.gi, h.mm, fun x hx => ?_⟩
  · obtain ⟨w1, hw1, e1, e2, _⟩ := tk_mem hw
    rw [e1, e2]; exact h.pd w1 hw1
  · rcases List.mem_append.1 ha with ha | ha
    · exact h.ad a ha
    · obtain ⟨w, hw, e⟩ := tkA_mem ha
      rw [e]
      exact ⟨h.pd w hw, (h.le w.inv (by unfold allInv; simp; exact .inl ⟨w, hw, rfl⟩)).2⟩
  · rcases List.mem_append.1 hx with hx | hx
    · exact h.dn x hx
    · exact .inl (tkD_code hx)
theorem Tr.hand {p : NP} (h : Tr p) {a : Ans} (ha : a ∈ p.given) : Tr (handN p a) := by
  obtain ⟨m1, m2, m3, m4, m5, m6⟩ := hand_mem (c := p.c) (a := a)
  have hop : ∀ w ∈ p.c.opn, w.inv ≤ p.c.sent := fun w hw => (h.le w.inv (by unfold allInv; simp; exact .inl ⟨w, hw, rfl⟩)).2
  have key : (allInv (handC p.c a).2).Perm (allInv p.c) ∧ ∀ x ∈ (handC p.c a).2.done, x ∈ p.c.done ∨ x = a := by
    unfold handC
    dsimp only
    split
    · exact ⟨List.Perm.refl _, fun x hx => .inl hx⟩
    rename_i hi
    obtain ⟨j, hj⟩ : ∃ j : Nat, fidx (fun w : Wt => w.inv == a.inv) p.c.opn = (j : Int) := ⟨(fidx (fun w : Wt => w.inv == a.inv) p.c.opn).toNat, by omega⟩
    obtain ⟨hjl, hjp, -⟩ := fidx_spec hj
    rw [hj, Int.toNat_natCast]
    have hinv : (at_ p.c.opn (j : Int)).inv = a.inv := by simpa using hjp
    have hend : ∀ b : Int, (allInv (endC { p.c with boot := b } (p.c.opn.eraseIdx j) a)).Perm (allInv p.c) := fun b => by
      unfold allInv endC
      simp only [List.map_append, List.map_cons, List.map_nil]
      have hs : p.c.opn = p.c.opn.take j ++ at_ p.c.opn (j : Int) :: p.c.opn.drop (j + 1) := by rw [← drop_at hjl, List.take_append_drop]
      have he : p.c.opn.eraseIdx j = p.c.opn.take j ++ p.c.opn.drop (j + 1) := List.eraseIdx_eq_take_drop_succ ..
      have h1 : (p.c.opn.map (·.inv)).Perm (a.inv :: (p.c.opn.eraseIdx j).map (·.inv)) := by
        rw [he]
        conv => lhs; rw [hs]
        rw [List.map_append, List.map_cons, List.map_append, hinv]
        exact List.perm_middle
      refine List.Perm.symm ?_
      refine List.Perm.trans (List.Perm.append_right _ h1) ?_
      rw [List.cons_append]
      refine List.Perm.trans (List.perm_append_comm (l₁ := [a.inv]) (l₂ := List.map (·.inv) (p.c.opn.eraseIdx j) ++ List.map (·.inv) p.c.done)) ?_
      rw [List.append_assoc]
    split
    · split
      · exact ⟨hend p.c.boot, fun x hx => by rcases List.mem_append.1 hx with hx | hx; exact .inl hx; simp at hx; exact .inr hx⟩
      · exact ⟨List.Perm.refl _, fun x hx => .inl hx⟩
    split
    · exact ⟨List.Perm.refl _, fun x hx => .inl hx⟩
    split
    · exact ⟨hend _, fun x hx => by rcases List.mem_append.1 hx with hx | hx; exact .inl hx; simp at hx; exact .inr hx⟩
    · refine ⟨?_, fun x hx => .inl hx⟩
      unfold allInv
      dsimp only
      have : (p.c.opn.set j { at_ p.c.opn (j : Int) with boot := a.boot, known := true, wait := 0 }).map (·.inv) = p.c.opn.map (·.inv) := by
        rw [List.map_set]
        dsimp only
        rw [at_nat hjl]
        apply List.ext_getElem
        · simp
        · intro i h1 h2
          rw [List.getElem_set]
          split
          · rename_i e; subst e; simp
          · rfl
      rw [this]
  obtain ⟨hperm, hdone⟩ := key
  refine ⟨hperm.nodup_iff.2 h.nd, fun i hi => ?_, ?_, fun q hq => ?_, fun w hw => ?_, fun b hb => ?_, h.ag, fun x hx => ?_, h.mm, fun x hx => ?_⟩
  · show 1 ≤ i ∧ i ≤ (handC p.c a).2.sent
    rw [m4]; exact h.le i (hperm.mem_iff.1 hi)
  · show 0 ≤ (handC p.c a).2.sent
    rw [m4]; exact h.sent
  · show 1 ≤ q.1 ∧ q.1 ≤ (handC p.c a).2.sent
    rw [m4]; exact h.keys q hq
  · obtain ⟨w1, hw1, e1, e2⟩ := m1 w hw
    rw [e1, e2]; exact h.pd w1 hw1
  · show dOf p.data b.inv = b.data ∧ b.inv ≤ (handC p.c a).2.sent
    rw [m4]
    rcases List.mem_append.1 hb with hb | hb
    · exact h.ad b hb
    · obtain ⟨w, hw, e1, e2⟩ := m2 b hb
      rw [e1, e2]
      exact ⟨h.pd w hw, hop w hw⟩
  · show x.inv ≤ (handC p.c a).2.sent ∧ _
    rw [m4]; exact h.gi x hx
  · rcases hdone x hx with hx | hx
    · exact h.dn x hx
    · rw [hx]; exact .inr (.inr ha)
theorem Tr.give {p : NP} (h : Tr p) {sv : Srv} {m : Int → List (Int × Ans) × Int} {x : Ans} (h1 : x.inv ≤ p.c.sent) (h2 : x.code = 0 → x.data = dOf p.data x.inv ++ dOf p.data x.inv) (h3 : ∀ q ∈ (m 1).1, q ∈ (p.m 1).1 ∨ q.2 = x) : Tr (gotP p sv m x) := by
  refine ⟨h.nd, h.le, h.sent, h.keys, h.pd, h.ad, fun y hy => ?_, fun y hy => ?_, fun q hq => ?_, fun y hy => ?_⟩
  · rcases List.mem_append.1 hy with hy | hy
    · exact List.mem_append_left _ (h.ag y hy)
    · exact List.mem_append_right _ hy
  · rcases List.mem_append.1 hy with hy | hy
    · exact h.gi y hy
    · simp only [List.mem_cons, List.not_mem_nil, or_false] at hy
      rw [hy]; exact ⟨h1, h2⟩
  · rcases h3 q hq with hq | hq
    · exact List.mem_append_left _ (h.mm q hq)
    · rw [hq]; exact List.mem_append_right _ (by simp)
  · rcases h.dn y hy with e | e | e
    · exact .inl e
    · exact .inr (.inl e)
    · exact .inr (.inr (List.mem_append_left _ e))
theorem handle_out {sv : Srv} {m : List (Int × Ans) × Int} {c : Int} {a : Ask} : (handleP sv m c a).1.2.1 = false → (handleP sv m c a).1.2.2 = 0 → ((handleP sv m c a).1.1.inv = a.inv ∧ (handleP sv m c a).1.1.code ≠ 0) ∨ ∃ q ∈ m.1, (handleP sv m c a).1.1 = q.2 := by
  unfold handleP
  split
  · intro _ e; simp at e
  split
  · intro _ _; exact .inl ⟨rfl, by simp⟩
  split
  · rename_i p hp
    intro _ _
    exact .inr ⟨p, List.mem_of_find?_eq_some hp, rfl⟩
  split
  · intro _ _; exact .inl ⟨rfl, by simp⟩
  split
  · intro _ e; simp at e
  · intro e; simp at e
theorem Tr.sv {p : NP} (h : Tr p) (sv : Srv) : Tr { p with sv := sv } := ⟨h.nd, h.le, h.sent, h.keys, h.pd, h.ad, h.ag, h.gi, h.mm, h.dn⟩
theorem Tr.serve {p : NP} (h : Tr p) {a : Ask} (ha : dOf p.data a.inv = a.data ∧ a.inv ≤ p.c.sent) : Tr (serveP p a) := by
  unfold serveP
  split
  · exact h.sv _
  rename_i e0
  split
  · rename_i e1
    obtain ⟨_, _, _, e4, _⟩ := handle_do (m := p.m) e1
    have e4 : (hnP p a).2 = { p.sv with nowC := 1, nowI := a.inv } := e4
    have hz : dOf p.data 0 = ⟨#[]⟩ := dOf_none fun q hq => by have := (h.keys q hq).1; omega
    unfold fnP finP
    split
    · refine h.give ?_ (fun _ => ?_) (fun q hq => .inl hq)
      · exact h.sent
      · show (⟨#[]⟩ : ByteArray) = dOf p.data 0 ++ dOf p.data 0
        rw [hz]; rfl
    split
    · refine h.give ?_ (fun _ => ?_) (fun q hq => .inl hq)
      · exact h.sent
      · show (⟨#[]⟩ : ByteArray) = dOf p.data 0 ++ dOf p.data 0
        rw [hz]; rfl
    · dsimp only
      have hf : finA (hnP p a).2 0 (a.data ++ a.data) = ⟨p.sv.boot, a.inv, 0, a.data ++ a.data⟩ := by unfold finA; rw [e4]
      refine h.give ?_ (fun _ => ?_) (fun q hq => ?_)
      · rw [hf]; exact ha.2
      · rw [hf]
        show a.data ++ a.data = dOf p.data a.inv ++ dOf p.data a.inv
        rw [ha.1]
      · split at hq
        · have hq2 : q ∈ (p.m 1).1 ++ [((hnP p a).2.nowI, finA (hnP p a).2 0 (a.data ++ a.data))] := by
            unfold memP at hq
            split at hq
            · exact List.mem_of_mem_eraseP hq
            · exact hq
          rcases List.mem_append.1 hq2 with hq2 | hq2
          · exact .inl hq2
          · simp only [List.mem_cons, List.not_mem_nil, or_false] at hq2
            rw [hq2]; exact .inr rfl
        · exact .inl hq
  · rename_i e1
    have e1' : (hnP p a).1.2.1 = false := by simpa using e1
    have e0' : (hnP p a).1.2.2 = 0 := by omega
    rcases handle_out e1' e0' with ⟨e2, e3⟩ | ⟨q, hq, e2⟩
    · refine h.give ?_ (fun e => absurd e e3) (fun q hq => .inl hq)
      have e2' : (hnP p a).1.1.inv = a.inv := e2
      rw [e2']; exact ha.2
    · have hg := h.gi _ (h.mm q hq)
      have e2' : (hnP p a).1.1 = q.2 := e2
      rw [e2']
      exact h.give hg.1 hg.2 (fun q hq => .inl hq)
theorem Tr.step {p : NP} (h : Tr p) (kind which : Int) (data : ByteArray) (hl : p.asks.length ≤ 1000000 ∧ p.answers.length ≤ 1000000) (hw : -9223372036854775808 ≤ which ∧ which ≤ 9223372036854775807) : Tr (stepP p kind which data) := by
  unfold stepP
  split
  · exact h.send data
  split
  · exact h.tick
  split
  · unfold askN
    split
    · exact h
    rename_i hne
    dsimp only
    have hlt := (ix_eq (which := which) (len := p.asks.length) (List.length_pos_iff.2 hne) hl.1 hw).2.2
    have ha := h.ad _ (at_mem hlt)
    have h1 : Tr (if which.tmod 2 = 0 then { p with asks := cut p.asks (ixW which p.asks.length) } else p) := by
      split
      · exact ⟨h.nd, h.le, h.sent, h.keys, h.pd, fun a ha => h.ad a (cut_mem ha), h.ag, h.gi, h.mm, h.dn⟩
      · exact h
    split
    · refine h1.serve ?_
      split <;> exact ha
    · exact h1
  split
  · unfold ansN
    split
    · exact h
    rename_i hne
    dsimp only
    have hlt := (ix_eq (which := which) (len := p.answers.length) (List.length_pos_iff.2 hne) hl.2 hw).2.2
    have ha := h.ag _ (at_mem hlt)
    have h1 : Tr (if which.tmod 2 = 0 then { p with answers := cut p.answers (ixW which p.answers.length) } else p) := by
      split
      · exact ⟨h.nd, h.le, h.sent, h.keys, h.pd, h.ad, fun x hx => h.ag x (cut_mem hx), h.gi, h.mm, h.dn⟩
      · exact h
    split
    · refine h1.hand ?_
      split <;> exact ha
    · exact h1
  split
  · exact ⟨h.nd, h.le, h.sent, h.keys, h.pd, h.ad, h.ag, h.gi, by simp [rebootN], h.dn⟩
  · exact h
end Go.Aw.S50
