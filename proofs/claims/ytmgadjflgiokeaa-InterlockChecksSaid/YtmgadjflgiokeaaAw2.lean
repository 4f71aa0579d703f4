/-
  The abstract machine, part 2: frames, triples of code and of calls, the rules for control.
-/
import Derived.Test.YtmgadjflgiokeaaAw1
namespace Go.Aw
open Go.RowKit

abbrev Fr := List (Nat × Value)
def lk (t : Nat) : Fr → Option Value
  | [] => none
  | (s, v) :: r => if t = s then some v else lk t r
def put (d : Option Tmp) (v : Value) (fr : Fr) : Fr := match d with | some d => (d, v) :: fr | none => fr

structure FrOk (N n : Nat) (J : Nat → Nat × Nat) (fr : Fr) (a : Act) : Prop where
  size : a.tmps.size = N
  defers : a.defers = []
  at_ : ∀ t v, lk t fr = some v → Und n v ∧ a.tmps[t]? = some (ren J v)

theorem FrOk.mono {N n m : Nat} {J J' : Nat → Nat × Nat} {fr : Fr} {a : Act} (h : FrOk N n J fr a) (hm : n ≤ m) (hJ : ∀ i, i < n → J i = J' i) : FrOk N m J' fr a :=
  ⟨h.size, h.defers, fun t v ht => ⟨(h.at_ t v ht).1.mono hm, by rw [(h.at_ t v ht).2, (h.at_ t v ht).1 J J' hJ]⟩⟩
theorem FrOk.put {N n : Nat} {J : Nat → Nat × Nat} {fr : Fr} {a : Act} (h : FrOk N n J fr a) {d : Option Tmp} {v : Value} (hv : Und n v) (hd : ∀ t, d = some t → t < N) :
    FrOk N n J (Aw.put d v fr) (a.put d (ren J v)) := by
  cases d with
  | none => exact h
  | some d =>
    have hlt : d < a.tmps.size := by rw [h.size]; exact hd d rfl
    refine ⟨by simp [Act.put, h.size], h.defers, fun t u ht => ?_⟩
    simp only [Aw.put, lk] at ht
    split at ht
    · rename_i e; subst e
      obtain rfl := Option.some.inj ht
      exact ⟨hv, by simp [Act.put, hlt]⟩
    · rename_i e
      obtain ⟨h1, h2⟩ := h.at_ t u ht
      exact ⟨h1, by simp [Act.put, Ne.symm e, h2]⟩

/-- A constant that leads nowhere. -/
def flat : Value → Bool
  | .bool _ | .int _ _ | .float _ _ | .complex _ _ _ | .string _ | .pointer none | .slice none _ _ | .map none | .chan none | .nilFunc | .nilIface => true
  | .iface _ v => flat v
  | _ => false
theorem flat_ren {v : Value} (h : flat v = true) (g : Nat → Nat × Nat) : renV g v = v := by
  fun_induction flat v <;> simp_all
def ev (fr : Fr) : Operand → Option Value
  | .tmp t => lk t fr
  | .const v => if flat v then some v else none
  | .func f => some (.func (.func f) #[] #[])
  | .global g => some (.pointer (some ⟨old g, 0, none⟩))
theorem ev_sound {N n : Nat} {J : Nat → Nat × Nat} {fr : Fr} {a : Act} (h : FrOk N n J fr a) {x : Operand} {v : Value} (hx : ev fr x = some v) : a.eval x = ren J v ∧ Und n v := by
  cases x with
  | tmp t =>
    obtain ⟨h1, h2⟩ := h.at_ t v hx
    refine ⟨?_, h1⟩
    simp only [Act.eval]
    rw [Array.getD_eq_getD_getElem?, h2]; rfl
  | const c =>
    simp only [ev] at hx
    split at hx
    · rename_i hf
      obtain rfl := Option.some.inj hx
      exact ⟨(flat_ren hf _).symm, fun J J' _ => by rw [ren, ren, flat_ren hf, flat_ren hf]⟩
    · cases hx
  | func f =>
    obtain rfl := Option.some.inj hx
    exact ⟨by simp [Act.eval], fun J J' _ => by simp⟩
  | global g =>
    obtain rfl := Option.some.inj hx
    exact ⟨by simp [Act.eval], by simp⟩

structure Cx where
  C : Ctx
  N : Nat
  n0 : Nat
  J0 : Nat → Nat × Nat
structure S (X : Cx) (n : Nat) (J : Nat → Nat × Nat) (H : Heap) (w : World) : Prop where
  st : St X.C n J H w
  le : X.n0 ≤ n
  ag : ∀ i, i < X.n0 → J i = X.J0 i
abbrev Post := Exit → Nat → Fr → Heap → Prop
def cpost (X : Cx) (Q : Post) : Exit → Act → World → Prop := fun e a w => ∃ n J fr H, S X n J H w ∧ FrOk X.N n J fr a ∧ Q e n fr H
/-- From every world that the abstract state describes. -/
def AW (X : Cx) (c : Code) (Q : Post) (n : Nat) (fr : Fr) (H : Heap) : Prop :=
  ∀ J a w, S X n J H w → FrOk X.N n J fr a → c.wp X.C.P (cpost X Q) a w
def thenP (K : Nat → Fr → Heap → Prop) (Q : Post) : Post
  | .normal, n, fr, H => K n fr H
  | e, n, fr, H => Q e n fr H
def inBlockP (id : Nat) (Q : Post) : Post
  | .exit id', n, fr, H => if id' = id then Q .normal n fr H else Q (.exit id') n fr H
  | e, n, fr, H => Q e n fr H
section
variable {X : Cx} {Q : Post} {n : Nat} {fr : Fr} {H : Heap}
theorem AW.mono {c : Code} {Q' : Post} (h : AW X c Q n fr H) (hq : ∀ e n fr H, Q e n fr H → Q' e n fr H) : AW X c Q' n fr H :=
  fun J a w hs hf => wp_mono (h J a w hs hf) fun _ _ _ ⟨n', J', fr', H', h1, h2, h3⟩ => ⟨n', J', fr', H', h1, h2, hq _ _ _ _ h3⟩
theorem AW.skip (h : Q .normal n fr H) : AW X .skip Q n fr H := fun J _ _ hs hf => wp_skip ⟨n, J, fr, H, hs, hf, h⟩
theorem AW.exit {id : Nat} (h : Q (.exit id) n fr H) : AW X (.exit id) Q n fr H := fun J _ _ hs hf => wp_exit ⟨n, J, fr, H, hs, hf, h⟩
theorem AW.ret (h : Q .ret n fr H) : AW X .ret Q n fr H := fun J _ _ hs hf => wp_ret ⟨n, J, fr, H, hs, hf, h⟩
theorem AW.seq {x y : Code} (h : AW X x (thenP (AW X y Q) Q) n fr H) : AW X (.seq x y) Q n fr H := fun J a w hs hf =>
  wp_seq (wp_mono (h J a w hs hf) fun e a' w' ⟨n', J', fr', H', h1, h2, h3⟩ => by
    cases e with
    | normal => exact h3 J' a' w' h1 h2
    | _ => exact ⟨n', J', fr', H', h1, h2, h3⟩)
theorem AW.block {id : Nat} {c : Code} (h : AW X c (inBlockP id Q) n fr H) : AW X (.block id c) Q n fr H := fun J a w hs hf =>
  wp_block (wp_mono (h J a w hs hf) fun e a' w' ⟨n', J', fr', H', h1, h2, h3⟩ => by
    cases e with
    | exit id' =>
      simp only [inBlockP] at h3
      simp only [Exit.inBlock]
      split at h3
      · rename_i e; rw [if_pos e]; exact ⟨n', J', fr', H', h1, h2, h3⟩
      · rename_i e; rw [if_neg e]; exact ⟨n', J', fr', H', h1, h2, h3⟩
    | _ => exact ⟨n', J', fr', H', h1, h2, h3⟩)
theorem AW.cond {c : Operand} {x y : Code} {t : Bool} (hc : ev fr c = some (.bool t)) (ht : t = true → AW X x Q n fr H) (hf : t = false → AW X y Q n fr H) :
    AW X (.cond c x y) Q n fr H := fun J a w hs hfr => by
  have he := (ev_sound hfr hc).1
  simp only [renV_bool] at he
  exact wp_cond_split he (fun h => ht h J a w hs hfr) (fun h => hf h J a w hs hfr)

/-- A loop: k rounds at the most are left. -/
theorem AW.loop {c : Code} (I : Nat → Nat → Fr → Heap → Prop) (k0 : Nat) (h0 : I k0 n fr H)
    (round : ∀ k n fr H, I k n fr H → AW X c (thenP (fun n' fr' H' => ∃ k', k' < k ∧ I k' n' fr' H') Q) n fr H) : AW X (.loop c) Q n fr H := by
  intro J a w hs hf b k cs
  have key : ∀ m n fr H, I m n fr H → ∀ J a w, S X n J H w → FrOk X.N n J fr a →
      ∃ e a' w', cpost X Q e a' w' ∧ Arrives X.C.P (lone (b.at a (.code c :: .inLoop c :: k)) cs w) b k cs e a' w' := by
    intro m
    induction m using Nat.strongRecOn with
    | _ m ih =>
      intro n fr H hI J a w hs hf
      obtain ⟨e, a₁, w₁, ⟨n', J', fr', H', h1, h2, h3⟩, harr⟩ := round m n fr H hI J a w hs hf b (.inLoop c :: k) cs
      cases e with
      | normal =>
        obtain ⟨k', hlt, hI'⟩ := h3
        obtain ⟨e₂, a₂, w₂, hq₂, harr₂⟩ := ih k' hlt n' fr' H' hI' J' a₁ w₁ h1 h2
        exact ⟨e₂, a₂, w₂, hq₂, .of_steps (Steps.trans harr (.one step_inLoop)) harr₂⟩
      | exit id => exact ⟨_, a₁, w₁, ⟨n', J', fr', H', h1, h2, h3⟩, .pass (x := .inLoop c) rfl (fun _ _ => .inl (by simp)) harr⟩
      | goto l => exact ⟨_, a₁, w₁, ⟨n', J', fr', H', h1, h2, h3⟩, .pass (x := .inLoop c) rfl (fun _ _ => .inl (by simp)) harr⟩
      | ret => exact ⟨_, a₁, w₁, ⟨n', J', fr', H', h1, h2, h3⟩, .pass (x := .inLoop c) rfl (fun _ _ => .inl (by simp)) harr⟩
      | panic ch => exact ⟨_, a₁, w₁, ⟨n', J', fr', H', h1, h2, h3⟩, .pass (x := .inLoop c) rfl (fun _ _ => .inl (by simp)) harr⟩
      | outgrown => exact ⟨_, a₁, w₁, ⟨n', J', fr', H', h1, h2, h3⟩, .pass (x := .inLoop c) rfl (fun _ _ => .inl (by simp)) harr⟩
  obtain ⟨e, a', w', hq, harr⟩ := key k0 n fr H h0 J a w hs hf
  exact ⟨e, a', w', hq, .of_steps (.one step_loop) harr⟩
end

/-- Objects are numbered anew (number i was number σ i); those below n0 keep their numbers. -/
structure Ren (n0 n : Nat) (H : Heap) (σ : Nat → Nat) (m : Nat) (H' : Heap) : Prop where
  ge : n0 ≤ m
  id : ∀ i, i < n0 → σ i = i
  lt : ∀ i, i < m → σ i < n
  inj : ∀ i j, i < m → j < m → (H' i).live → (H' j).live → σ i = σ j → i = j
  obj : ∀ i, i < m → H' i = .dead ∨ (H' i).und m ∧ H (σ i) = (H' i).sub σ
theorem S.renum {X : Cx} {n m : Nat} {J : Nat → Nat × Nat} {H H' : Heap} {w : World} {σ : Nat → Nat} (h : S X n J H w) (r : Ren X.n0 n H σ m H') : S X m (fun i => J (σ i)) H' w :=
  ⟨h.st.renum σ r.lt r.inj r.obj, r.ge, fun i hi => by simp only [r.id i hi]; exact h.ag i hi⟩
def FrRen (σ : Nat → Nat) (fr : Fr) (m : Nat) (fr' : Fr) : Prop := ∀ t v, lk t fr' = some v → Und m v ∧ lk t fr = some (Aw.sub σ v)
theorem FrOk.renum {N n m : Nat} {J : Nat → Nat × Nat} {fr fr' : Fr} {a : Act} {σ : Nat → Nat} (h : FrOk N n J fr a) (r : FrRen σ fr m fr') : FrOk N m (fun i => J (σ i)) fr' a :=
  ⟨h.size, h.defers, fun t v ht => by
    obtain ⟨h1, h2⟩ := r t v ht
    exact ⟨h1, by rw [(h.at_ t _ h2).2, ren_sub]⟩⟩
/-- What isn't wanted any more is forgotten, and the rest numbered anew. -/
theorem AW.renum {X : Cx} {c : Code} {Q : Post} {n m : Nat} {fr fr' : Fr} {H H' : Heap} (σ : Nat → Nat) (r : Ren X.n0 n H σ m H') (rf : FrRen σ fr m fr')
    (h : AW X c Q m fr' H') : AW X c Q n fr H :=
  fun _ a w hs hf => h _ a w (hs.renum r) (hf.renum rf)

/-- A call, from every world that the heap describes. -/
def ACall (C : Ctx) (f : FuncId) (args : List Value) (K : Value → Nat → Heap → Prop) (n : Nat) (H : Heap) : Prop :=
  ∀ J w, St C n J H w → (∀ v ∈ args, Und n v) → Calls C.P f (args.map (ren J)).toArray w
    (fun e w' => ∃ n' J' r H', e = .returned (ren J' r) ∧ St C n' J' H' w' ∧ n ≤ n' ∧ (∀ i, i < n → J' i = J i) ∧ Und n' r ∧ K r n' H')
theorem ACall.mono {C : Ctx} {f : FuncId} {args : List Value} {K K' : Value → Nat → Heap → Prop} {n : Nat} {H : Heap} (h : ACall C f args K n H) (hk : ∀ r n' H', K r n' H' → K' r n' H') :
    ACall C f args K' n H :=
  fun J w hs hu => (h J w hs hu).mono fun _ _ ⟨n', J', r, H', h1, h2, h3, h4, h5, h6⟩ => ⟨n', J', r, H', h1, h2, h3, h4, h5, hk _ _ _ h6⟩

/-- How the results are read. -/
def params : Nat → List Value → Fr
  | _, [] => []
  | i, v :: r => (i, v) :: params (i + 1) r
theorem lk_params {t : Nat} {v : Value} : ∀ (l : List Value) (i : Nat), lk t (params i l) = some v → i ≤ t ∧ l[t - i]? = some v
  | [], _, h => by simp [params, lk] at h
  | u :: r, i, h => by
    simp only [params, lk] at h
    split at h
    · rename_i e; subst e
      obtain rfl := Option.some.inj h
      simp
    · rename_i e
      obtain ⟨h1, h2⟩ := lk_params r (i + 1) h
      refine ⟨by omega, ?_⟩
      have : t - i = (t - (i + 1)) + 1 := by omega
      rw [this]; simpa using h2
/-- n cells from an address on. -/
def getN (C : Ctx) (H : Heap) (a : Addr) : Nat → Nat → Option (List Value)
  | 0, _ => some []
  | k + 1, i => match get C H (a.add i) with
    | some v => match getN C H a k (i + 1) with
      | some r => some (v :: r)
      | none => none
    | none => none
theorem getN_sound {C : Ctx} {n : Nat} {J : Nat → Nat × Nat} {H : Heap} {w : World} (hs : St C n J H w) {a : Addr} (ha : UndA n a) :
    ∀ (k i : Nat) (l : List Value) (acc : Array Value), getN C H a k i = some l → (∀ v ∈ l, Und n v) ∧ (loadCellsFrom (renA J a) i k acc).run C.P w = .ok (acc ++ (l.map (ren J)).toArray) w
  | 0, i, l, acc, h => by
    simp only [getN, Option.some.injEq] at h
    subst h
    exact ⟨by simp, by simp [loadCellsFrom, pure]⟩
  | k + 1, i, l, acc, h => by
    simp only [getN] at h
    split at h
    · rename_i v hv
      split at h
      · rename_i r hr
        obtain rfl := Option.some.inj h
        obtain ⟨h1, h2⟩ := get_sound hs (ha.add i) hv
        obtain ⟨h3, h4⟩ := getN_sound hs ha k (i + 1) r (acc.push (ren J v)) hr
        rw [renA_add] at h1
        refine ⟨by simpa [h2] using h3, ?_⟩
        have : loadCellsFrom (renA J a) i (k + 1) acc = Sem.load .plain ((renA J a).add i) fun u => loadCellsFrom (renA J a) (i + 1) k (acc.push u) := rfl
        rw [this]
        simp only [Sem.run, h1]
        rw [h4]
        simp
      · cases h
    · cases h
theorem ren_ptr (J : Nat → Nat × Nat) (b : Addr) : ren J (.pointer (some b)) = .pointer (some (renA J b)) := by simp [renA]
theorem ren_int (J : Nat → Nat × Nat) (k : IntKind) (n : Int) : ren J (.int k n) = .int k n := by simp
theorem ren_agg (J : Nat → Nat × Nat) (cs : Array Value) : ren J (.agg cs) = .agg (cs.map (ren J)) := by simp
theorem ren_tuple (J : Nat → Nat × Nat) (cs : Array Value) : ren J (.tuple cs) = .tuple (cs.map (ren J)) := by simp
theorem ren_func (J : Nat → Nat × Nat) (fn : Fn) (f c : Array Value) : ren J (.func fn f c) = .func fn (f.map (ren J)) (c.map (ren J)) := by simp
/-! ### Types -/
def aggD : TypeDesc → Bool
  | .struct _ => true
  | .array _ _ => true
  | _ => false
theorem run_under {P : Program} {t : TypeId} {d : TypeDesc} (h : P.underlying t = some d) (w : World) : (underlying t).run P w = .ok d w := by
  simp [underlying, program, bind, Sem.bind, Sem.run, h, pure]
theorem run_typeInfo {P : Program} {t : TypeId} {i : TypeInfo} (h : P.info? t = some i) (w : World) : (typeInfo t).run P w = .ok i w := by
  simp [typeInfo, program, bind, Sem.bind, Sem.run, h, pure]
theorem run_sizeOf {P : Program} {t : TypeId} {i : TypeInfo} (h : P.info? t = some i) (w : World) : (sizeOf t).run P w = .ok i.size w := by
  simp [sizeOf, run_typeInfo h]
theorem run_zero {P : Program} {t : TypeId} {i : TypeInfo} {v : Value} (h : P.info? t = some i) (hz : i.zero = some v) (w : World) : (zeroValue t).run P w = .ok v w := by
  simp [zeroValue, run_typeInfo h, hz]
theorem run_isAgg {P : Program} {t : TypeId} {d : TypeDesc} (h : P.underlying t = some d) (w : World) : (isAgg t).run P w = .ok (aggD d) w := by
  simp only [isAgg, Sem.run_bind, run_under h, Result.andThen_ok]
  cases d <;> rfl
/-- The type's size, and whether its values are aggregates. -/
def shp (P : Program) (t : TypeId) : Option (Bool × Nat) :=
  match P.underlying t, P.info? t with
  | some d, some i => some (aggD d, i.size)
  | _, _ => none
theorem shp_some {P : Program} {t : TypeId} {b : Bool} {s : Nat} (h : shp P t = some (b, s)) : ∃ d i, P.underlying t = some d ∧ P.info? t = some i ∧ aggD d = b ∧ i.size = s := by
  unfold shp at h
  split at h
  · rename_i d i hd hi
    simp only [Option.some.injEq, Prod.mk.injEq] at h
    exact ⟨d, i, hd, hi, h.1, h.2⟩
  · cases h
def loadA (C : Ctx) (H : Heap) (t : TypeId) (a : Addr) : Option Value :=
  match shp C.P t with
  | some (true, s) => match getN C H a s 0 with
    | some l => some (.agg l.toArray)
    | none => none
  | some (false, _) => get C H a
  | none => none
theorem loadA_sound {C : Ctx} {n : Nat} {J : Nat → Nat × Nat} {H : Heap} {w : World} (hs : St C n J H w) {t : TypeId} {a : Addr} (ha : UndA n a) {v : Value} (h : loadA C H t a = some v) :
    Und n v ∧ (loadVar t (renA J a)).run C.P w = .ok (ren J v) w := by
  unfold loadA at h
  split at h
  · rename_i s he
    obtain ⟨d, i, hd, hi, hb, rfl⟩ := shp_some he
    split at h
    · rename_i l hl
      obtain rfl := Option.some.inj h
      obtain ⟨h1, h2⟩ := getN_sound hs ha i.size 0 l #[] hl
      refine ⟨und_agg (by simpa using h1), ?_⟩
      simp [loadVar, run_isAgg hd, hb, run_sizeOf hi, loadCells, h2, pure, Sem.run]
    · cases h
  · rename_i s he
    obtain ⟨d, i, hd, hi, hb, rfl⟩ := shp_some he
    obtain ⟨h1, h2⟩ := get_sound hs ha h
    refine ⟨h2, ?_⟩
    simp [loadVar, run_isAgg hd, hb, load, Sem.run, h1]
  · cases h
end Go.Aw
