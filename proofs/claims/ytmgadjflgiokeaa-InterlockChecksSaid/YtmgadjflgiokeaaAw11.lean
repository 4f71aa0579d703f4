/-
  The abstract machine, part 11: regions whose order is drawn. A plan says in which order they are looked at: operations that write nothing are taken first; of the others each that may come next is looked at.
-/
import Derived.Test.YtmgadjflgiokeaaAw10
import Derived.Orders
namespace Go.Aw
open Go.RowKit

/-! ### Taking an operation first that always yields the same as long as the worlds are of a kind -/
section
variable {P : Program} {ops : Array Oper} {Q : Exit → Act → World → Prop}
def wpV (P : Program) (ops : Array Oper) (Q : Exit → Act → World → Prop) (V : Array Bool → World → Prop) : Nat → Array Bool → Act → World → Prop
  | 0, l, a, w => Region.ready .any ops l = [] ∧ Q .normal a w
  | f + 1, l, a, w => (Region.ready .any ops l = [] → Q .normal a w) ∧
      ∀ i ∈ Region.ready .any ops l, wpOp P ops Q i (fun a' w' => V (l.setIfInBounds i true) w' ∧ wpV P ops Q V f (l.setIfInBounds i true) a' w') a w
theorem wpV.any {V : Array Bool → World → Prop} : ∀ (f : Nat) (l : Array Bool) (a : Act) (w : World), wpV P ops Q V f l a w → wpAny P .any ops Q f l a w
  | 0, _, _, _, h => h
  | f + 1, _, _, _, h => ⟨h.1, fun i hi => wpOp_mono (fun a' w' h' => wpV.any f _ a' w' h'.2) (h.2 i hi)⟩
theorem wpV.weak {V V' : Array Bool → World → Prop} (hv : ∀ l w, V l w → V' l w) : ∀ (f : Nat) (l : Array Bool) (a : Act) (w : World), wpV P ops Q V f l a w → wpV P ops Q V' f l a w
  | 0, _, _, _, h => h
  | f + 1, _, _, _, h => ⟨h.1, fun i hi => wpOp_mono (fun a' w' h' => ⟨hv _ _ h'.1, wpV.weak hv f _ a' w' h'.2⟩) (h.2 i hi)⟩
def Closed (ops : Array Oper) (l : Array Bool) : Prop := ∀ j o, l.getD j false = true → ops[j]? = some o → ∀ e ∈ o.after, Region.binds .any e = true → l.getD e.on false = true
theorem Closed.set {l : Array Bool} {i : Nat} (h : Closed ops l) (hi : i ∈ Region.ready .any ops l) : Closed ops (l.setIfInBounds i true) := by
  intro j o hj ho e he hb
  by_cases hji : i = j
  · subst hji
    obtain ⟨_, o', ho', hall⟩ := mem_ready.1 hi
    rw [ho] at ho'
    obtain rfl := Option.some.inj ho'
    exact getD_set_true (hall e he hb)
  · rw [getD_set_ne false hji] at hj
    exact getD_set_true (h j o hj ho e he hb)
theorem eval_tmps {a b : Act} (h : a.tmps = b.tmps) : a.eval = b.eval := by
  funext x
  cases x <;> simp [Act.eval, h]
/-- What an operation leaves in the registers. -/
theorem wpOp_acts {j : Nat} {oj : Oper} {K : Act → World → Prop} {a : Act} {w : World} (hj : ops[j]? = some oj) (h : wpOp P ops Q j K a w) :
    wpOp P ops Q j (fun a' w' => (∃ u, a'.tmps = (a.put oj.dst u).tmps) ∧ K a' w') a w := by
  have hd : ∀ (d : Deferred) (v : Value), (({ a with defers := d :: a.defers } : Act).put oj.dst v).tmps = (a.put oj.dst v).tmps := fun d v => by
    cases oj.dst <;> rfl
  unfold wpOp at *
  simp only [hj] at h ⊢
  split
  · rename_i hw
    simp only [hw, if_true] at h
    rcases h with h | h
    case inr => exact .inr h
    refine .inl ?_
    unfold Oper.wp at *
    generalize (execOp a.eval oj).run P w = r at *
    cases r with
    | ok n w' =>
      cases n <;> simp only [Oper.upon] at h ⊢
      case value u => exact ⟨⟨u, rfl⟩, h⟩
      case skip => exact ⟨⟨undef, rfl⟩, h⟩
      case defer d => exact ⟨⟨undef, hd d _⟩, h⟩
      case enter f args =>
        refine Calls.mono h fun e w'' he => ?_
        cases e with
        | returned u => exact ⟨⟨u, rfl⟩, he⟩
        | panicked c => exact he
        | outgrown => exact he
      case row row args => exact Rows.mono h fun u w'' he => ⟨⟨u, rfl⟩, he⟩
    | halt x w' => cases x <;> simp only [Oper.upon] at h ⊢ <;> exact h
  · rename_i hw
    simp only [hw] at h
    exact ⟨⟨undef, rfl⟩, h⟩
/-- In a world of the kind, the operation yields the value. -/
def YOk (P : Program) (ops : Array Oper) (o : Oper) (v : Value) (Y : World → Prop) (a : Act) : Prop :=
  (Region.wanted o (yielded ops a.tmps) = true ∧ ∀ w, Y w → (execOp a.eval o).run P w = .ok (.value v) w) ∨ (Region.wanted o (yielded ops a.tmps) = false ∧ v = undef)
theorem YOk.keep {oi oj : Oper} {v u : Value} {Y : World → Prop} {a a' : Act} (hs : ∀ cs b, oi.op ≠ .select cs b) (hap : oi.apart ops oj = true) (h : YOk P ops oi v Y a) (ha : a'.tmps = (a.put oj.dst u).tmps) : YOk P ops oi v Y a' := by
  obtain ⟨_, _, h3⟩ := Oper.apart_spec hap
  have e1 : execOp a'.eval oi = execOp a.eval oi := by rw [eval_tmps ha]; exact execOp_put (ops := ops) oi hs a oj.dst u h3
  have e2 : Region.wanted oi (yielded ops a'.tmps) = Region.wanted oi (yielded ops a.tmps) := by rw [ha]; exact wanted_put oi a oj.dst u h3
  unfold YOk at *
  rw [e1, e2]
  exact h
theorem wpOp_late {j : Nat} {oi oj : Oper} {v : Value} {Y : World → Prop} (hj : ops[j]? = some oj) (hap : oi.apart ops oj = true) (hsi : ∀ cs b, oi.op ≠ .select cs b) (hsj : ∀ cs b, oj.op ≠ .select cs b)
    (hQ : ∀ c a w, ¬ Q (.panic c) a w) {K : Act → World → Prop} {a : Act} {w : World} (hy : YOk P ops oi v Y a) (h : wpOp P ops Q j K (a.put oi.dst v) w) :
    wpOp P ops Q j (fun a' w' => YOk P ops oi v Y a' ∧ K (a'.put oi.dst v) w') a w := by
  have hf : ({ dst := oi.dst, op := .assign (.const v), type := 0, pos := "", after := #[], guard := none } : Oper).apart ops oj = true := by
    obtain ⟨h1, h2, _⟩ := Oper.apart_spec hap
    have hl : ({ dst := oi.dst, op := .assign (.const v), type := 0, pos := "", after := #[], guard := none } : Oper).looksAt ops = [] := by simp [Oper.looksAt, Op.operands]
    unfold Oper.apart
    rw [hl]
    cases hd : oi.dst with
    | none => cases oj.dst <;> simp
    | some d =>
      have g1 := h1 d hd
      have g2 := h2 d hd
      cases ho : oj.dst with
      | none => simp [g1]
      | some d' => rw [ho] at g2; simpa [g1] using g2
  have h2 := wpOp_put (P := P) (v := v) hj hf (by simp) hsj (fun c a w h => absurd h (hQ c _ w)) (a := a) (.inl ⟨rfl, fun w => by simp [execOp, Act.eval]⟩) h
  exact wpOp_mono (fun a' w' h' => ⟨by obtain ⟨⟨u, hu⟩, _⟩ := h'; exact hy.keep hsi hap hu, h'.2.2⟩) (wpOp_acts hj h2)
theorem wpV_first {V : Array Bool → World → Prop} {Y : World → Prop} {i : Nat} {oi : Oper} {v : Value} (hi : ops[i]? = some oi) (hsel : Region.noSelect ops = true) (hQ : ∀ c a w, ¬ Q (.panic c) a w)
    (hV : ∀ l w, V (l.setIfInBounds i true) w → V l w) (hY : ∀ l w, Closed ops l → l.getD i true = false → V l w → Y w) :
    ∀ (fuel : Nat) (l : Array Bool) (a : Act) (w : World), Closed ops l →
      (∀ j oj, ops[j]? = some oj → j ≠ i → l.getD j true = false → (∀ e ∈ oj.after, Region.binds .any e = true → e.on ≠ i) → oi.apart ops oj = true) →
      i ∈ Region.ready .any ops l → V (l.setIfInBounds i true) w → YOk P ops oi v Y a →
      wpV P ops Q V fuel (l.setIfInBounds i true) (a.put oi.dst v) w → wpV P ops Q V (fuel + 1) l a w := by
  have here : ∀ (fuel : Nat) (l : Array Bool) (a : Act) (w : World), Closed ops l → i ∈ Region.ready .any ops l → V (l.setIfInBounds i true) w → YOk P ops oi v Y a →
      wpV P ops Q V fuel (l.setIfInBounds i true) (a.put oi.dst v) w → wpOp P ops Q i (fun a' w' => V (l.setIfInBounds i true) w' ∧ wpV P ops Q V fuel (l.setIfInBounds i true) a' w') a w := by
    intro fuel l a w hc hr hv hy H
    have hYw := hY l w hc (mem_ready.1 hr).1 (hV _ _ hv)
    unfold wpOp
    simp only [hi]
    rcases hy with ⟨hw, hv'⟩ | ⟨hw, rfl⟩
    · simp only [hw, if_true, Oper.wp, hv' w hYw, Oper.upon]; exact .inl ⟨hv, H⟩
    · simp only [hw, Bool.false_eq_true, if_false]; exact ⟨hv, H⟩
  intro fuel
  induction fuel with
  | zero =>
    intro l a w hc _ hr hv hy H
    refine ⟨fun h => (by rw [h] at hr; cases hr), fun j hj => ?_⟩
    by_cases hji : j = i
    · subst hji; exact here 0 l a w hc hr hv hy H
    · have := ready_mono hj hji
      rw [H.1] at this
      cases this
  | succ fuel ih =>
    intro l a w hc hfree hr hv hy H
    refine ⟨fun h => (by rw [h] at hr; cases hr), fun j hj => ?_⟩
    by_cases hji : j = i
    · subst hji; exact here _ l a w hc hr hv hy H
    · have h1 := H.2 j (ready_mono hj hji)
      obtain ⟨hjun, oj, hoj, hall⟩ := mem_ready.1 hj
      have hnot : ∀ e ∈ oj.after, Region.binds .any e = true → e.on ≠ i := fun e he hb heq => by
        have h1 := hall e he hb
        have h0 := (mem_ready.1 hr).1
        rw [heq] at h1
        rcases Nat.lt_or_ge i l.size with h' | h'
        · simp [h'] at h0 h1; rw [h0] at h1; cases h1
        · simp [Array.getElem?_eq_none h'] at h1
      have h2 := wpOp_late hoj (hfree j oj hoj hji hjun hnot) (fun cs b => Region.noSelect_spec hsel i oi cs b hi) (fun cs b => Region.noSelect_spec hsel j oj cs b hoj) hQ hy h1
      have hfree' : ∀ k ok, ops[k]? = some ok → k ≠ i → (l.setIfInBounds j true).getD k true = false →
          (∀ e ∈ ok.after, Region.binds .any e = true → e.on ≠ i) → oi.apart ops ok = true := fun k ok hk hki hun hno => by
        refine hfree k ok hk hki ?_ hno
        by_cases hjk : j = k
        · subst hjk; exact hjun
        · rw [getD_set_ne true hjk] at hun; exact hun
      refine wpOp_mono (fun a' w' h3 => ?_) h2
      obtain ⟨hy', hv', h3⟩ := h3
      rw [Array.setIfInBounds_comm _ _ (Ne.symm hji)] at hv' h3
      exact ⟨hV _ _ hv', ih (l.setIfInBounds j true) a' w' (hc.set hj) hfree' (ready_mono hr (Ne.symm hji)) hv' hy' h3⟩
end

/-! ### Plans -/
inductive Plan
  | done
  | stop
  | take (i : Nat) (p : Plan)
  | each (i : Nat) (obl : List Nat) (p q : Plan)
def isLoad : Op → Bool
  | .load .. => true
  | _ => false
def effB (ops : Array Oper) (j : Nat) : Bool := match ops[j]? with
  | some o => !(pureOp o.op || isLoad o.op)
  | none => false
def ancB (ops : Array Oper) (i : Nat) : Nat → Nat → Bool
  | 0, _ => false
  | f + 1, j => match ops[j]? with
    | some o => o.after.any fun e => Region.binds .any e && (e.on == i || ancB ops i f e.on)
    | none => false
/-- The same by a table of masks: each operation is looked at once. -/
def maskOf (tab : List Nat) (o : Oper) : Nat := o.after.toList.foldl (fun m e => if Region.binds .any e then (m ||| 2 ^ e.on) ||| tab.getD e.on 0 else m) 0
def ancTab : List Oper → List Nat → List Nat
  | [], tab => tab
  | o :: r, tab => ancTab r (tab ++ [maskOf tab o])
def ancM (ops : Array Oper) (t i : Nat) : Bool := ((ancTab ops.toList []).getD i 0).testBit t
theorem mask_fold {tab : List Nat} {t : Nat} : ∀ (l : List Edge) (m : Nat), (l.foldl (fun m e => if Region.binds .any e then (m ||| 2 ^ e.on) ||| tab.getD e.on 0 else m) m).testBit t = true →
    m.testBit t = true ∨ ∃ e ∈ l, Region.binds .any e = true ∧ (e.on = t ∨ (tab.getD e.on 0).testBit t = true)
  | [], m, h => .inl h
  | e :: r, m, h => by
    rw [List.foldl_cons] at h
    rcases mask_fold r _ h with h | ⟨x, hx, h⟩
    · by_cases hb : Region.binds .any e = true
      · rw [if_pos hb, Nat.testBit_or, Nat.testBit_or, Nat.testBit_two_pow] at h
        simp only [Bool.or_eq_true, decide_eq_true_eq] at h
        rcases h with (h | h) | h
        · exact .inl h
        · exact .inr ⟨e, List.mem_cons_self .., hb, .inl h⟩
        · exact .inr ⟨e, List.mem_cons_self .., hb, .inr h⟩
      · rw [if_neg hb] at h; exact .inl h
    · exact .inr ⟨x, List.mem_cons_of_mem _ hx, h⟩
theorem ancTab_sound {ops : Array Oper} {t : Nat} : ∀ (r pre : List Oper) (tab : List Nat), ops.toList = pre ++ r → tab.length = pre.length → (∀ j, (tab.getD j 0).testBit t = true → ∃ f, ancB ops t f j = true) →
    ∀ j, ((ancTab r tab).getD j 0).testBit t = true → ∃ f, ancB ops t f j = true
  | [], _, _, _, _, h => h
  | o :: r, pre, tab, ho, hl, h => by
    refine ancTab_sound r (pre ++ [o]) _ (by rw [ho, List.append_assoc]; rfl) (by simp [hl]) ?_
    intro j hj
    by_cases hjl : j < tab.length
    · refine h j ?_
      rw [List.getD_eq_getElem?_getD, List.getElem?_append_left hjl, ← List.getD_eq_getElem?_getD] at hj
      exact hj
    · by_cases hje : j = tab.length
      · subst hje
        rw [List.getD_eq_getElem?_getD, List.getElem?_append_right (Nat.le_refl _)] at hj
        simp only [Nat.sub_self, List.getElem?_cons_zero, Option.getD_some] at hj
        have ho' : ops[tab.length]? = some o := by rw [← Array.getElem?_toList, ho, hl]; simp
        rcases mask_fold _ _ hj with h0 | ⟨e, he, hb, h1⟩
        · simp at h0
        · rcases h1 with h1 | h1
          · refine ⟨1, ?_⟩
            unfold ancB
            rw [ho']
            exact Array.any_eq_true'.2 ⟨e, by simpa using he, by simp [hb, h1]⟩
          · obtain ⟨f, hf⟩ := h e.on h1
            refine ⟨f + 1, ?_⟩
            unfold ancB
            rw [ho']
            exact Array.any_eq_true'.2 ⟨e, by simpa using he, by simp [hb, hf]⟩
      · rw [List.getD_eq_getElem?_getD, List.getElem?_eq_none (by simp; omega)] at hj
        simp at hj
theorem ancM_sound {ops : Array Oper} {t i : Nat} (h : ancM ops t i = true) : ∃ f, ancB ops t f i = true :=
  ancTab_sound ops.toList [] [] rfl rfl (fun j hj => by simp at hj) i h
def planOk (ops : Array Oper) : Plan → Nat → Array Bool → List Nat → Option (List Nat) → Bool
  | .done, _, l, _, none => Region.ready .any ops l == []
  | .stop, _, _, _, some [] => true
  | .take i p, f + 1, l, T, none => (Region.ready .any ops l).contains i && Region.free .any ops l i && !effB ops i && planOk ops p f (l.setIfInBounds i true) (i :: T) none
  | .each i obl p q, f + 1, l, T, rs => match rs.getD (Region.ready .any ops l) with
    | j :: r => j == i && T.all (fun t => obl.contains t || (effB ops i && ancM ops t i)) && planOk ops p f (l.setIfInBounds i true) obl none && planOk ops q (f + 1) l T (some r)
    | [] => false
  | _, _, _, _, _ => false
abbrev Fact := Nat × TypeId × Addr × Value
def takeA (C : Ctx) (ρ : Operand → Option Value) (i : Nat) (op : Op) (k : Value → List Fact → Prop) (n : Nat) (H : Heap) : Prop :=
  match op with
  | .load t x => optK (ρ x) fun p => optK (asA p) fun ad => optK (loadA C H t ad) fun v => k v [(i, t, ad, v)]
  | op => opA C ρ op (fun v _ _ => k v []) n (fun _ => .dead)
def oblK (C : Ctx) (H : Heap) (obl : List Nat) : List Fact → Prop
  | [] => True
  | e :: F => (obl.contains e.1 = true → loadA C H e.2.1 e.2.2.1 = some e.2.2.2) ∧ oblK C H obl F
theorem oblK_mem {C : Ctx} {H : Heap} {obl : List Nat} : ∀ {F : List Fact}, oblK C H obl F → ∀ e ∈ F, obl.contains e.1 = true → loadA C H e.2.1 e.2.2.1 = some e.2.2.2
  | _ :: _, h, e, he, hc => by
    rcases List.mem_cons.1 he with rfl | he
    · exact h.1 hc
    · exact oblK_mem h.2 e he hc
def AEx (X : Cx) (ops : Array Oper) (K : Nat → Fr → Heap → Prop) : Plan → List Fact → Nat → Fr → Heap → Prop
  | .done, _, n, fr, H => K n fr H
  | .stop, _, _, _, _ => True
  | .take i p, F, n, fr, H => optK ops[i]? fun o => dOk X.N o.dst ∧ gate ops o.guard fr (fun fr => takeA X.C (ev fr) i o.op (fun v L => AEx X ops K p (L ++ F) n (put o.dst v fr) H) n H) (fun fr => AEx X ops K p F n (put o.dst undef fr) H)
  | .each i obl p q, F, n, fr, H => (optK ops[i]? fun o => dOk X.N o.dst ∧ gate ops o.guard fr (fun fr => opA X.C (ev fr) o.op (fun v n' H' => oblK X.C H' obl F ∧ AEx X ops K p F n' (put o.dst v fr) H') n H) (fun fr => AEx X ops K p F n (put o.dst undef fr) H)) ∧ AEx X ops K q F n fr H

def Need (ops : Array Oper) (l : Array Bool) (i : Nat) : Prop := ∀ j, l.getD j false = true → effB ops j = true → ∀ f, ancB ops i f j = false
theorem Need.of_set {ops : Array Oper} {l : Array Bool} {i k : Nat} (h : Need ops (l.setIfInBounds k true) i) : Need ops l i := fun j hj => h j (getD_set_true hj)
theorem Need.set {ops : Array Oper} {l : Array Bool} {i k : Nat} (h : Need ops l i) (hk : effB ops k = false) : Need ops (l.setIfInBounds k true) i := by
  intro j hj he
  by_cases hkj : k = j
  · subst hkj; rw [hk] at he; cases he
  · rw [getD_set_ne false hkj] at hj; exact h j hj he
theorem anc_listed {ops : Array Oper} {l : Array Bool} {i : Nat} (hc : Closed ops l) : ∀ (f j : Nat), l.getD j false = true → ancB ops i f j = true → l.getD i false = true
  | f + 1, j, hj, h => by
    unfold ancB at h
    split at h
    · rename_i o ho
      obtain ⟨e, he, h⟩ := Array.any_eq_true'.1 h
      simp only [Bool.and_eq_true, Bool.or_eq_true, beq_iff_eq] at h
      have h1 := hc j o hj ho e he h.1
      rcases h.2 with h2 | h2
      · rw [← h2]; exact h1
      · exact anc_listed hc f e.on h1 h2
    · cases h
theorem need_unlisted {ops : Array Oper} {l : Array Bool} {i : Nat} (hc : Closed ops l) (hi : l.getD i true = false) : Need ops l i := by
  intro j hj _ f
  cases h : ancB ops i f j with
  | false => rfl
  | true =>
    have h1 := anc_listed hc f j hj h
    rcases Nat.lt_or_ge i l.size with h' | h'
    · simp [h'] at hi h1; rw [hi] at h1; cases h1
    · simp [Array.getElem?_eq_none h'] at h1
def VF (P : Program) (ops : Array Oper) (J : Nat → Nat × Nat) (F : List Fact) (l : Array Bool) (w : World) : Prop :=
  ∀ e ∈ F, Need ops l e.1 → (loadVar e.2.1 (renA J e.2.2.1)).run P w = .ok (ren J e.2.2.2) w
def FOk (C : Ctx) (ops : Array Oper) (n : Nat) (H : Heap) (l : Array Bool) (T : List Nat) (F : List Fact) : Prop :=
  ∀ e ∈ F, UndA n e.2.2.1 ∧ Und n e.2.2.2 ∧ (e.1 ∈ T ∨ ¬ Need ops l e.1) ∧ (Need ops l e.1 → loadA C H e.2.1 e.2.2.1 = some e.2.2.2)
theorem FOk.vf {C : Ctx} {ops : Array Oper} {n : Nat} {J : Nat → Nat × Nat} {H : Heap} {l : Array Bool} {T : List Nat} {F : List Fact} {w : World} (h : FOk C ops n H l T F) (hs : St C n J H w) : VF C.P ops J F l w :=
  fun e he hn => (loadA_sound hs (h e he).1 ((h e he).2.2.2 hn)).2
theorem VF.congr {P : Program} {ops : Array Oper} {n : Nat} {J J' : Nat → Nat × Nat} {F : List Fact} (hu : ∀ e ∈ F, UndA n e.2.2.1 ∧ Und n e.2.2.2) (hJ : ∀ i, i < n → J' i = J i) {l : Array Bool} {w : World} (h : VF P ops J' F l w) : VF P ops J F l w := by
  intro e he hn
  have h1 := h e he hn
  obtain ⟨u1, u2⟩ := hu e he
  have e1 : ren J' e.2.2.2 = ren J e.2.2.2 := u2 J' J hJ
  have e2 : renA J' e.2.2.1 = renA J e.2.2.1 := by
    have := (und_ptr.2 u1) J' J hJ
    rw [ren_ptr, ren_ptr] at this
    exact Option.some.inj (Value.pointer.inj this)
  rwa [e1, e2] at h1
section
variable {X : Cx} {Q : Post} {ops : Array Oper} {K : Nat → Fr → Heap → Prop}
def npost (X : Cx) (Q : Post) (e : Exit) (a : Act) (w : World) : Prop := e = .normal ∧ cpost X Q e a w
theorem AEx_sound (hK : ∀ n fr H, K n fr H → Q .normal n fr H) (hns : Region.noSelect ops = true) : ∀ (p : Plan) (fuel : Nat) (l : Array Bool) (T : List Nat) (rs : Option (List Nat)) (F : List Fact) (n : Nat) (fr : Fr) (H : Heap),
    planOk ops p fuel l T rs = true → AEx X ops K p F n fr H → Closed ops l → l.size = ops.size → FOk X.C ops n H l T F → (∀ r, rs = some r → ∀ i ∈ r, i ∈ Region.ready .any ops l) →
    ∀ J a w, S X n J H w → FrOk X.N n J fr a →
      (rs = none → wpV X.C.P ops (npost X Q) (VF X.C.P ops J F) fuel l a w) ∧
      (∀ r, rs = some r → ∀ i ∈ r, wpOp X.C.P ops (npost X Q) i (fun a' w' => VF X.C.P ops J F (l.setIfInBounds i true) w' ∧ wpV X.C.P ops (npost X Q) (VF X.C.P ops J F) (fuel - 1) (l.setIfInBounds i true) a' w') a w) := by
  have hQ : ∀ c a w, ¬ npost X Q (.panic c) a w := fun c a w h => nomatch h.1
  intro p
  induction p with
  | done =>
    intro fuel l T rs F n fr H hp h hc hsz hF hrs J a w hs hf
    cases rs with
    | some r => simp [planOk] at hp
    | none =>
      refine ⟨fun _ => ?_, fun r h => (nomatch h)⟩
      have hr : Region.ready .any ops l = [] := by simpa [planOk] using hp
      have hq : npost X Q .normal a w := ⟨rfl, n, J, fr, H, hs, hf, hK _ _ _ h⟩
      cases fuel with
      | zero => exact ⟨hr, hq⟩
      | succ f => exact ⟨fun _ => hq, fun i hi => by rw [hr] at hi; cases hi⟩
  | stop =>
    intro fuel l T rs F n fr H hp h hc hsz hF hrs J a w hs hf
    cases rs with
    | none => simp [planOk] at hp
    | some r =>
      cases r with
      | cons x xs => simp [planOk] at hp
      | nil => exact ⟨fun h => (nomatch h), fun r h i hi => by obtain rfl := Option.some.inj h; cases hi⟩
  | take i p ih =>
    intro fuel l T rs F n fr H hp h hc hsz hF hrs J a w hs hf
    cases rs with
    | some r => cases fuel <;> simp [planOk] at hp
    | none =>
      cases fuel with
      | zero => simp [planOk] at hp
      | succ f =>
        refine ⟨fun _ => ?_, fun r h => (nomatch h)⟩
        simp only [planOk, Bool.and_eq_true, Bool.not_eq_true'] at hp
        obtain ⟨⟨⟨hr, hfree⟩, heff⟩, hp⟩ := hp
        have hr : i ∈ Region.ready .any ops l := by simpa using hr
        obtain ⟨o, ho, hd, h⟩ := optK_ex h
        have hsel : ∀ cs b, o.op ≠ .select cs b := fun cs b => Region.noSelect_spec hns i o cs b ho
        have hd' : ∀ t, o.dst = some t → t < X.N := fun t ht => by have := hd; rw [ht] at this; exact this
        have hsz' : (l.setIfInBounds i true).size = ops.size := by simpa using hsz
        have hset : ∀ T', (∀ t ∈ T, t ∈ T') → FOk X.C ops n H (l.setIfInBounds i true) T' F := fun T' hT e he => by
          obtain ⟨u1, u2, u3, u4⟩ := hF e he
          exact ⟨u1, u2, u3.imp (hT _) (fun h h' => h h'.of_set), fun h => u4 h.of_set⟩
        have main : ∀ (v : Value) (F' : List Fact) (Y : World → Prop) (fr' : Fr), Und n v → YOk X.C.P ops o (ren J v) Y a → FrOk X.N n J fr' a → FOk X.C ops n H (l.setIfInBounds i true) (i :: T) F' → (∀ e ∈ F, e ∈ F') →
            (∀ l w, Need ops l i → VF X.C.P ops J F' l w → Y w) → FrOk X.N n J (put o.dst v fr') (a.put o.dst (ren J v)) → AEx X ops K p F' n (put o.dst v fr') H → wpV X.C.P ops (npost X Q) (VF X.C.P ops J F) (f + 1) l a w := by
          intro v F' Y fr' hv hy hf' hF' hsub hY hfp hA
          have h1 := (ih f _ (i :: T) none F' n _ H hp hA (hc.set hr) hsz' hF' (fun r h => nomatch h) J _ w hs hfp).1 rfl
          refine wpV.weak (V := VF X.C.P ops J F') (fun l w hv e he => hv e (hsub e he)) _ _ _ _ ?_
          refine wpV_first (Y := Y) ho hns hQ (fun l w hv e he hn => hv e he (hn.set heff)) (fun l w hc hi hv => hY l w (need_unlisted hc hi) hv) f l a w hc (Region.free_spec ho hfree) hr (hF'.vf hs.st) hy h1
        rcases gate_wanted (o := o) hf h with ⟨hw, fr', hf', h⟩ | ⟨hw, fr', hf', h⟩
        · unfold takeA at h
          split at h
          · rename_i t x hop
            obtain ⟨q, hq, h⟩ := optK_ex h
            obtain ⟨ad, had, h⟩ := optK_ex h
            obtain ⟨v, hv, hk⟩ := optK_ex h
            obtain rfl := asA_some had
            obtain ⟨e, u⟩ := ev_sound hf' hq
            have ua := und_ptr.1 u
            obtain ⟨u2, _⟩ := loadA_sound hs.st ua hv
            refine main v ([(i, t, ad, v)] ++ F) (fun w => (loadVar t (renA J ad)).run X.C.P w = .ok (ren J v) w) fr' u2 (.inl ⟨hw, fun w hY => ?_⟩) hf' ?_ (fun e he => List.mem_append_right _ he)
              (fun l w hn hv => hv (i, t, ad, v) (by simp) hn) (hf'.put u2 hd') hk
            · obtain ⟨dst, op, ty, pos, after, guard⟩ := o
              simp only at hop
              subst hop
              rw [ren_ptr] at e
              simp only [execOp, e, Instr.loadAt, Instr.sureAddr, Sem.run_bind, Sem.run_pure, Result.andThen_ok]
              rw [hY]
              rfl
            · intro e he
              rcases List.mem_append.1 he with he | he
              · simp only [List.mem_singleton] at he
                subst he
                exact ⟨ua, u2, .inl (by simp), fun _ => hv⟩
              · exact hset _ (fun t ht => List.mem_cons_of_mem _ ht) e he
          · rename_i op' hnl
            have hpure : pureOp o.op = true := by
              have : isLoad o.op = false := by
                cases hop : o.op <;> simp [isLoad]
                exact absurd hop (hnl _ _)
              have h2 := heff
              simpa [effB, ho, this] using h2
            obtain ⟨v, hk, hu, hv⟩ := pure_sound hf' hpure h
            exact main v F (fun _ => True) fr' hu (.inl ⟨hw, fun w _ => hv w⟩) hf' (hset _ (fun t ht => List.mem_cons_of_mem _ ht)) (fun e he => he) (fun _ _ _ _ => trivial) (hf'.put hu hd') hk
        · have e1 := ren_undef J
          refine main undef F (fun _ => True) fr' (und_undef n) (.inr ⟨hw, e1⟩) hf' (hset _ (fun t ht => List.mem_cons_of_mem _ ht)) (fun e he => he) (fun _ _ _ _ => trivial) ?_ h
          rw [e1]
          exact hf'.put_undef hd
  | each i obl p q ihp ihq =>
    intro fuel l T rs F n fr H hp h hc hsz hF hrs J a w hs hf
    cases fuel with
    | zero => simp [planOk] at hp
    | succ f =>
      simp only [planOk] at hp
      split at hp
      · rename_i j r hrr
        simp only [Bool.and_eq_true, beq_iff_eq] at hp
        obtain ⟨⟨⟨rfl, hT⟩, hp1⟩, hp2⟩ := hp
        obtain ⟨h1, h2⟩ := h
        have hready : ∀ k ∈ j :: r, k ∈ Region.ready .any ops l := by
          cases rs with
          | none => simp only [Option.getD_none] at hrr; rw [hrr]; exact fun k hk => hk
          | some r' => simp only [Option.getD_some] at hrr; subst hrr; exact hrs _ rfl
        have hq := (ihq (f + 1) l T (some r) F n fr H hp2 h2 hc hsz hF (fun r' h k hk => by obtain rfl := Option.some.inj h; exact hready k (List.mem_cons_of_mem _ hk)) J a w hs hf).2 r rfl
        have hj := hready j (by simp)
        have hlt : j < l.size := by
          have := (mem_ready.1 hj).1
          rcases Nat.lt_or_ge j l.size with h' | h'
          · exact h'
          · simp [Array.getElem?_eq_none h'] at this
        have hlj : (l.setIfInBounds j true).getD j false = true := by simp [hlt]
        have hsz' : (l.setIfInBounds j true).size = ops.size := by simpa using hsz
        have hobl : ∀ e ∈ F, e.1 ∈ obl ∨ ¬ Need ops (l.setIfInBounds j true) e.1 := fun e he => by
          rcases (hF e he).2.2.1 with h | h
          · have h3 := List.all_eq_true.1 hT e.1 h
            simp only [Bool.or_eq_true, Bool.and_eq_true] at h3
            rcases h3 with h3 | ⟨h3, h4⟩
            · exact .inl (by simpa using h3)
            · exact .inr fun hn => by obtain ⟨f, hf⟩ := ancM_sound h4; rw [hn j hlj h3 f] at hf; cases hf
          · exact .inr fun hn => h hn.of_set
        have step : wpOp X.C.P ops (npost X Q) j (fun a' w' => VF X.C.P ops J F (l.setIfInBounds j true) w' ∧ wpV X.C.P ops (npost X Q) (VF X.C.P ops J F) f (l.setIfInBounds j true) a' w') a w := by
          obtain ⟨o, ho, hd, h1⟩ := optK_ex h1
          have hd' : ∀ t, o.dst = some t → t < X.N := fun t ht => by have := hd; rw [ht] at this; exact this
          unfold wpOp
          simp only [ho]
          rcases gate_wanted (o := o) hf h1 with ⟨hw, fr', hf', h1⟩ | ⟨hw, fr', hf', h1⟩
          · rw [if_pos hw]
            refine .inl (opA_sound (o := o) hs.st hf' h1 _ _ ?_)
            intro n' J' H' w' v g1 g2 g3 g4 g5
            obtain ⟨g5, g6⟩ := g5
            have hF' : FOk X.C ops n' H' (l.setIfInBounds j true) obl F := fun e he => by
              obtain ⟨u1, u2, u3, u4⟩ := hF e he
              refine ⟨fun h => Nat.lt_of_lt_of_le (u1 h) g2, u2.mono g2, hobl e he, fun hn => oblK_mem g5 e he ?_⟩
              rcases hobl e he with h | h
              · simpa using h
              · exact absurd hn h
            have hs' := hs.next g1 g2 g3
            have h5 := (ihp f _ obl none F n' _ H' hp1 g6 (hc.set hj) hsz' hF' (fun r h => nomatch h) J' _ w' hs' ((hf'.mono g2 (fun i hi => (g3 i hi).symm)).put g4 hd')).1 rfl
            have hu : ∀ e ∈ F, UndA n e.2.2.1 ∧ Und n e.2.2.2 := fun e he => ⟨(hF e he).1, (hF e he).2.1⟩
            exact ⟨VF.congr hu g3 (hF'.vf hs'.st), wpV.weak (fun l w hv => VF.congr hu g3 hv) _ _ _ _ h5⟩
          · rw [if_neg (by simp [hw])]
            have hF' : FOk X.C ops n H (l.setIfInBounds j true) obl F := fun e he => by
              obtain ⟨u1, u2, u3, u4⟩ := hF e he
              exact ⟨u1, u2, hobl e he, fun hn => u4 hn.of_set⟩
            exact ⟨hF'.vf hs.st, (ihp f _ obl none F n _ H hp1 h1 (hc.set hj) hsz' hF' (fun r h => nomatch h) J _ w hs (hf'.put_undef hd)).1 rfl⟩
        have all : ∀ k ∈ j :: r, wpOp X.C.P ops (npost X Q) k (fun a' w' => VF X.C.P ops J F (l.setIfInBounds k true) w' ∧ wpV X.C.P ops (npost X Q) (VF X.C.P ops J F) f (l.setIfInBounds k true) a' w') a w := fun k hk => by
          rcases List.mem_cons.1 hk with rfl | hk
          · exact step
          · exact hq k hk
        cases rs with
        | none =>
          simp only [Option.getD_none] at hrr
          exact ⟨fun _ => ⟨fun h => (by rw [h] at hrr; cases hrr), fun k hk => all k (hrr ▸ hk)⟩, fun r h => (nomatch h)⟩
        | some r' =>
          simp only [Option.getD_some] at hrr
          exact ⟨fun h => (nomatch h), fun r'' h k hk => by obtain rfl := Option.some.inj h; subst hrr; exact all k hk⟩
      · cases hp
/-- A region whose order is drawn, along a plan. -/
theorem AW.draw {id n : Nat} {fr : Fr} {H : Heap} (hm : X.C.P.follows .mixedOrders = true) (p : Plan) (hp : (Region.noSelect ops && planOk ops p ops.size (Array.replicate ops.size false) [] none) = true)
    (h : AEx X ops (Q .normal) p [] n fr H) : AW X (.region id ops true) Q n fr H := by
  intro J a w hs hf
  simp only [Bool.and_eq_true] at hp
  refine wp_mono (Q := npost X Q) ?_ fun _ _ _ h => h.2
  refine wp_region_any hm (wpV.any _ _ _ _ ((AEx_sound (fun _ _ _ h => h) hp.1 p _ _ [] none [] n fr H hp.2 h ?_ (by simp) (fun e he => nomatch he) (fun r h => nomatch h) J a _ ⟨hs.st.drew, hs.le, hs.ag⟩ hf).1 rfl))
  intro j o hj
  exfalso
  rcases Nat.lt_or_ge j ops.size with h' | h'
  · simp [h'] at hj
  · simp [h'] at hj
end
end Go.Aw
