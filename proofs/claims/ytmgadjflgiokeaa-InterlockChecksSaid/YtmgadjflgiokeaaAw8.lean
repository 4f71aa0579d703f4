/-
  The abstract machine, part 8: regions in the text's order, the begin and the end of a call, code without loops at one go.
-/
import Derived.Test.YtmgadjflgiokeaaAw7
namespace Go.Aw
open Go.RowKit

def dOk (N : Nat) (d : Option Tmp) : Prop := match d with | some t => t < N | none => True
@[simp] theorem dOk_none (N : Nat) : dOk N none = True := nr rfl
@[simp] theorem dOk_some (N t : Nat) : dOk N (some t) = (t < N) := nr rfl
/-- Behind a guard: what the guarding operation has left. -/
def gateV (d : Tmp) (v : Value) (want : Bool) (fr : Fr) (A B : Fr → Prop) : Prop :=
  match v with
  | .bool b => (b = want → A ((d, .bool want) :: fr)) ∧ (b = !want → B ((d, .bool !want) :: fr))
  | .tuple _ => B fr
  | _ => False
def gate (ops : Array Oper) (g : Option (Nat × Bool)) (fr : Fr) (A B : Fr → Prop) : Prop :=
  match g with
  | none => A fr
  | some (j, want) => optK ((ops[j]?).bind (·.dst)) fun d => optK (lk d fr) fun v => gateV d v want fr A B
def ARun (X : Cx) (ops : Array Oper) (K : Nat → Fr → Heap → Prop) : List Oper → Nat → Fr → Heap → Prop
  | [], n, fr, H => K n fr H
  | ⟨dst, op, _, _, _, g⟩ :: r, n, fr, H => dOk X.N dst ∧
      gate ops g fr (fun fr => opA X.C (ev fr) op (fun v n' H' => ARun X ops K r n' (put dst v fr) H') n H) (fun fr => ARun X ops K r n (put dst undef fr) H)
section
variable {X : Cx} {Q : Post} {n : Nat} {fr : Fr} {H : Heap}
theorem S.next {J J' : Nat → Nat × Nat} {n' : Nat} {H' : Heap} {w w' : World} (h : S X n J H w) (h1 : St X.C n' J' H' w') (h2 : n ≤ n') (h3 : ∀ i, i < n → J' i = J i) : S X n' J' H' w' :=
  ⟨h1, Nat.le_trans h.le h2, fun i hi => by rw [h3 i (Nat.lt_of_lt_of_le hi h.le)]; exact h.ag i hi⟩
theorem und_undef (n : Nat) : Und n undef := fun _ _ _ => by simp [undef]
theorem ren_undef (J : Nat → Nat × Nat) : ren J undef = undef := by simp [undef]
theorem FrOk.put_undef {N n : Nat} {J : Nat → Nat × Nat} {fr : Fr} {a : Act} (h : FrOk N n J fr a) {d : Option Tmp} (hd : dOk N d) : FrOk N n J (Aw.put d undef fr) (a.put d undef) := by
  have := h.put (und_undef n) (d := d) (fun t ht => by subst ht; exact hd)
  rwa [ren_undef] at this
theorem gate_wanted {N n : Nat} {J : Nat → Nat × Nat} {fr : Fr} {a : Act} (hf : FrOk N n J fr a) {ops : Array Oper} {o : Oper} {A B : Fr → Prop} (h : gate ops o.guard fr A B) :
    (Region.wanted o (yielded ops a.tmps) = true ∧ ∃ fr', FrOk N n J fr' a ∧ A fr') ∨ (Region.wanted o (yielded ops a.tmps) = false ∧ ∃ fr', FrOk N n J fr' a ∧ B fr') := by
  unfold gate at h
  split at h
  · rename_i hg
    exact .inl ⟨by simp [Region.wanted, hg], fr, hf, h⟩
  · rename_i j want hg
    replace h := optK_ex h
    obtain ⟨d, hd, h⟩ := h
    replace h := optK_ex h
    obtain ⟨v, hv, h⟩ := h
    unfold gateV at h
    split at h
    case h_2 =>
      rename_i cs
      refine .inr ⟨?_, fr, hf, h⟩
      have h3 := (hf.at_ d _ hv).2
      simp only [renV_tuple] at h3
      simp [Region.wanted, hg, yielded, hd, h3]
    case h_3 => exact h.elim
    rename_i b
    obtain ⟨h1, h2⟩ := h
    have hy : yielded ops a.tmps j = some b := by
      have h3 := (hf.at_ d _ hv).2
      simp only [renV_bool] at h3
      simp [yielded, hd, h3]
    have hfr : FrOk N n J ((d, .bool b) :: fr) a := by
      refine ⟨hf.size, hf.defers, fun t u ht => ?_⟩
      simp only [lk] at ht
      split at ht
      · rename_i e; subst e
        obtain rfl := Option.some.inj ht
        exact hf.at_ _ _ hv
      · exact hf.at_ t u ht
    by_cases hw : b = want
    · exact .inl ⟨by simp [Region.wanted, hg, hy, hw], _, by rw [hw] at hfr; exact hfr, h1 hw⟩
    · have hw' : b = !want := by cases b <;> cases want <;> simp_all
      exact .inr ⟨by simp [Region.wanted, hg, hy, hw], _, by rw [hw'] at hfr; exact hfr, h2 hw'⟩
theorem ARun_sound {ops : Array Oper} {K : Nat → Fr → Heap → Prop} (hK : ∀ n fr H, K n fr H → Q .normal n fr H) : ∀ (l : List Oper) (n : Nat) (fr : Fr) (H : Heap), ARun X ops K l n fr H →
    ∀ J a w, S X n J H w → FrOk X.N n J fr a → wpList X.C.P ops (cpost X Q) l a w
  | [], n, fr, H, h, J, a, w, hs, hf => ⟨n, J, fr, H, hs, hf, hK _ _ _ h⟩
  | o :: r, n, fr, H, h, J, a, w, hs, hf => by
    obtain ⟨hd, h⟩ := h
    have hd' : ∀ t, o.dst = some t → t < X.N := fun t ht => by
      have := hd; rw [show o.dst = some t from ht] at this; exact this
    unfold wpList
    rcases gate_wanted (o := o) hf h with ⟨hw, fr', hf', h⟩ | ⟨hw, fr', hf', h⟩
    · rw [if_pos hw]
      refine .inl (opA_sound (o := o) hs.st hf' h _ _ ?_)
      intro n' J' H' w' v h1 h2 h3 h4 h5
      exact ARun_sound hK r n' _ H' h5 J' _ w' (hs.next h1 h2 h3) ((hf'.mono h2 (fun i hi => (h3 i hi).symm)).put h4 hd')
    · rw [if_neg (by simp [hw])]
      exact ARun_sound hK r n _ H h J _ w hs (hf'.put_undef hd)
theorem AW.region {id : Nat} {ops : Array Oper} (h : ARun X ops (fun n fr H => Q .normal n fr H) ops.toList n fr H) : AW X (.region id ops false) Q n fr H :=
  fun J a w hs hf => wp_region_list (ARun_sound (fun _ _ _ h => h) _ _ _ _ h J a w hs hf)
end

/-! ### The results, the begin, the end -/
def resA (C : Ctx) (fr : Fr) (H : Heap) : ResultVar → Option Value
  | .tmp t => lk t fr
  | .cell a t => match lk a fr with
    | some (.pointer (some b)) => loadA C H t b
    | _ => none
def resAs (C : Ctx) (fr : Fr) (H : Heap) : List ResultVar → Option (List Value)
  | [] => some []
  | r :: l => match resA C fr H r, resAs C fr H l with
    | some v, some vs => some (v :: vs)
    | _, _ => none
def resV (C : Ctx) (fr : Fr) (H : Heap) (l : List ResultVar) : Option Value :=
  match resAs C fr H l with
  | some [v] => some v
  | some vs => some (.tuple vs.toArray)
  | none => none
def resF (tmps : Array Value) : ResultVar → Sem Value
  | .tmp t => pure (tmps.getD t undef)
  | .cell x t => do loadVar t (← asAddr (tmps.getD x undef))
theorem results_eq (fn : Func) (tmps : Array Value) : results fn tmps = (fn.results.mapM (resF tmps) >>= fun vs => pure (if h : vs.size = 1 then vs[0] else .tuple vs)) := by
  unfold results
  congr 1
theorem resAs_run {C : Ctx} {n : Nat} {J : Nat → Nat × Nat} {H : Heap} {w : World} {N : Nat} {fr : Fr} {a : Act} (hs : St C n J H w) (hf : FrOk N n J fr a) : ∀ (l : List ResultVar) (vs : List Value), resAs C fr H l = some vs →
    (l.mapM (resF a.tmps)).run C.P w = .ok (vs.map (ren J)) w ∧ ∀ v ∈ vs, Und n v
  | [], vs, h => by simp only [resAs, Option.some.injEq] at h; subst h; exact ⟨rfl, by simp⟩
  | r :: l, vs, h => by
    simp only [resAs] at h
    split at h
    · rename_i v us h1 h2
      obtain rfl := Option.some.inj h
      obtain ⟨h3, h4⟩ := resAs_run hs hf l us h2
      have key : (resF a.tmps r).run C.P w = .ok (ren J v) w ∧ Und n v := by
        cases r with
        | tmp t =>
          obtain ⟨h5, h6⟩ := hf.at_ t v h1
          refine ⟨?_, h5⟩
          simp only [resF]
          rw [Array.getD_eq_getD_getElem?, h6]; rfl
        | cell x t =>
          simp only [resA] at h1
          split at h1
          · rename_i b hb
            obtain ⟨h5, h6⟩ := hf.at_ x _ hb
            obtain ⟨h7, h8⟩ := loadA_sound hs (und_ptr.1 h5) h1
            refine ⟨?_, h7⟩
            rw [ren_ptr] at h6
            have h9 : a.tmps.getD x undef = .pointer (some (renA J b)) := by rw [Array.getD_eq_getD_getElem?, h6]; rfl
            simp only [resF, h9, asAddr, Sem.run_bind, Sem.run_pure, Result.andThen_ok, h8]
          · cases h1
      refine ⟨?_, by simpa [key.2] using h4⟩
      rw [List.mapM_cons, Sem.run_bind]
      simp only [key.1, Result.andThen_ok, Sem.run_bind, h3, Sem.run_pure, List.map_cons]
    · cases h
theorem resV_run {C : Ctx} {n : Nat} {J : Nat → Nat × Nat} {H : Heap} {w : World} {N : Nat} {fr : Fr} {a : Act} (hs : St C n J H w) (hf : FrOk N n J fr a) {fn : Func} {v : Value} (h : resV C fr H fn.results.toList = some v) :
    (results fn a.tmps).run C.P w = .ok (ren J v) w ∧ Und n v := by
  have hm : ∀ vs, resAs C fr H fn.results.toList = some vs → (fn.results.mapM (resF a.tmps)).run C.P w = .ok (vs.map (ren J)).toArray w ∧ ∀ v ∈ vs, Und n v := by
    intro vs hvs
    obtain ⟨h1, h2⟩ := resAs_run hs hf _ _ hvs
    refine ⟨?_, h2⟩
    rw [Array.mapM_eq_mapM_toList, Sem.run_map, h1]; rfl
  unfold resV at h
  split at h
  · rename_i u hu
    obtain rfl := Option.some.inj h
    obtain ⟨h1, h2⟩ := hm _ hu
    refine ⟨?_, h2 _ (by simp)⟩
    rw [results_eq, Sem.run_bind, h1]
    simp
  · rename_i vs hne hu
    obtain rfl := Option.some.inj h
    obtain ⟨h1, h2⟩ := hm _ hu
    refine ⟨?_, und_tuple (by simpa using h2)⟩
    rw [results_eq, Sem.run_bind, h1]
    have : (vs.map (ren J)).toArray.size ≠ 1 := by
      intro h3
      simp at h3
      obtain ⟨x, rfl⟩ := List.length_eq_one_iff.1 h3
      exact hne x rfl
    simp only [Result.andThen_ok, dif_neg this, Sem.run_pure, renV_tuple]
    congr 2
    apply Array.ext'; simp
  · cases h
/-- The end of a call: what of the heap the caller is told, the new objects numbered as he is told. -/
def Fin (n0 : Nat) (K : Value → Nat → Heap → Prop) (r : Value) (n : Nat) (H : Heap) : Prop :=
  K r n H ∨ ∃ σ m H' r', Ren n0 n H σ m H' ∧ r = sub σ r' ∧ Und m r' ∧ K r' m H'
def bpost (C : Ctx) (n0 : Nat) (rs : List ResultVar) (K : Value → Nat → Heap → Prop) : Post
  | .normal, n, fr, H => optK (resV C fr H rs) fun r => Fin n0 K r n H
  | .ret, n, fr, H => optK (resV C fr H rs) fun r => Fin n0 K r n H
  | _, _, _, _ => False
theorem ACall.enter {C : Ctx} {f : FuncId} {fn : Func} {c : Code} {args : List Value} {K : Value → Nat → Heap → Prop} {n : Nat} {H : Heap} (hf : C.P.funcs[f]? = some fn) (hb : fn.body = some c)
    (hN : args.length ≤ fn.ntmps) (h : (∀ i, i < n → (H i).und n) → (∀ v ∈ args, Und n v) → ∀ J0, AW ⟨C, fn.ntmps, n, J0⟩ c (bpost C n fn.results.toList K) n (params 0 args) H) : ACall C f args K n H := by
  intro J w hs hu
  have hU : ∀ i, i < n → (H i).und n := fun i hi => (hs.obj i hi).und
  have hfr : FrOk fn.ntmps n J (params 0 args) { tmps := (args.map (ren J)).toArray ++ Array.replicate (fn.ntmps - (args.map (ren J)).toArray.size) undef, defers := [] } := by
    refine ⟨by simp; omega, rfl, fun t v ht => ?_⟩
    obtain ⟨_, h2⟩ := lk_params args 0 ht
    rw [Nat.sub_zero] at h2
    refine ⟨hu v (List.mem_of_getElem? h2), ?_⟩
    have hlt : t < args.length := (List.getElem?_eq_some_iff.1 h2).1
    rw [Array.getElem?_append_left (by simpa using hlt)]
    simp [h2]
  refine calls_of_wp hf hb (wp_mono (h hU hu J J _ w ⟨hs, Nat.le_refl _, fun _ _ => rfl⟩ hfr) ?_)
  rintro e a w' ⟨n', J', fr', H', h1, h2, h3⟩
  have key : ∀ h3 : optK (resV C fr' H' fn.results.toList) (fun r => Fin n K r n' H'), a.defers = [] ∧ ∃ v, (results fn a.tmps).run C.P w' = .ok v w' ∧
      ∃ n'' J'' r H'', Ending.returned v = .returned (ren J'' r) ∧ St C n'' J'' H'' w' ∧ n ≤ n'' ∧ (∀ i, i < n → J'' i = J i) ∧ Und n'' r ∧ K r n'' H'' := by
    intro h3
    obtain ⟨r, hr, hfin⟩ := optK_ex h3
    obtain ⟨h4, h5⟩ := resV_run h1.st h2 hr
    rcases hfin with hk | ⟨σ, m, H'', r', hren, rfl, hu', hk⟩
    · exact ⟨h2.defers, _, h4, n', J', r, H', rfl, h1.st, h1.le, h1.ag, h5, hk⟩
    refine ⟨h2.defers, _, h4, m, fun i => J' (σ i), r', H'', ?_, h1.st.renum σ hren.lt hren.inj hren.obj, hren.ge, fun i hi => by simp only [hren.id i hi]; exact h1.ag i hi, hu', hk⟩
    rw [ren_sub]
  cases e with
  | normal => exact key h3
  | ret => exact key h3
  | _ => exact h3.elim

/-! ### Ends that are met most -/
theorem sub_id (v : Value) : sub id v = v := by
  unfold sub
  have : (fun b => if b % 2 = 0 then (b, 0) else (new (id (b / 2)), 0)) = fun b => (b, 0) := by
    funext b
    split
    · rfl
    · rename_i h; simp only [id, new]; congr 1; omega
  rw [this, renV_id]
theorem AObj.sub_id (o : AObj) : o.sub id = o := by
  have hm : ∀ cs : List Value, cs.map (Aw.sub id) = cs := fun cs => by
    conv => rhs; rw [← List.map_id cs]
    exact List.map_congr_left fun v _ => Aw.sub_id v
  cases o with
  | dead => rfl
  | tight => rfl
  | cells cs T sz => simp only [AObj.sub, hm]
  | fixed cs T sz => simp only [AObj.sub, hm]
  | map es clock =>
    simp only [AObj.sub]
    congr 1
    conv => rhs; rw [← List.map_id es]
    exact List.map_congr_left fun e _ => by cases e; simp only [mapE, Aw.sub_id, id]
  | iter m since seen last => simp only [AObj.sub, Option.map_id, id]
end Go.Aw
