/-
  The abstract machine, part 14: from a call to a row: the law returns true and leaves its arguments alone. Opening arguments.
-/
import Derived.Test.YtmgadjflgiokeaaAw13
import Derived.Carry
import Derived.ChangeReads
import Derived.ProofKit
import Derived.Deep.Slices
namespace Go.Aw
open Go.RowKit Go.ChangeShapes Go.WideShapes

section
variable {H : Type} {enc : TypeId × Value → H} {P : Program}
theorem trodAll_below (hl : laidOutB P = true) {W W' : World} (hb : Below W.heap.size W W') : ∀ (ts : List TypeId) (vs : List Value) (ds : List (DataW H)) (ps : List MemPlace),
    (ts.all fun t => P.readableRec t && decide (t < P.types.size)) = true → DataW.TrodAll enc P W 0 (fun _ => true) true ts vs ds ps → (∀ x ∈ ps, x.block < W.heap.size) →
    DataW.TrodAll enc P W' 0 (fun b => decide (b < W.heap.size)) true ts vs ds ps
  | [], _, _, _, _, h, _ => by obtain ⟨rfl, rfl, rfl⟩ := trodAll_nil h; exact rfl
  | t :: ts, _, _, _, hr, h, hlt => by
    obtain ⟨v, vs, d, ds, p, q, rfl, rfl, rfl, h1, h2⟩ := trodAll_cons h
    simp only [List.all_cons, Bool.and_eq_true, decide_eq_true_eq] at hr
    obtain ⟨⟨hr1, hr2⟩, hr3⟩ := hr
    exact ⟨p, q, Below.trod hl hr1 hr2 h1 hb (fun x hx => hlt x (by simp [hx])), trodAll_below hl hb ts vs ds q hr3 h2 (fun x hx => hlt x (by simp [hx])), rfl⟩
/-- The law answered true, and memory that was there is as it was. -/
theorem law_post {f : Func} {s : ChangeSpec} {apart fresh : Bool} {W W' : World} {args : Array Value} {ds gs : List (DataW H)} {before : List MemPlace} {B : TypeId} (hl : laidOutB P = true)
    (hr : (f.params.toList.all fun t => P.readableRec t && decide (t < P.types.size)) = true) (hB : P.underlying B = some .bool) (hrt : f.resultTypes = #[B]) (hv : s.vars = [])
    (hfn : s.fn H ds = { results := [.lit (.bool true)], args := ds }) (hW : DataW.Whole enc P f.params.toList s.vars apart W args.toList ds gs before) (hb : Below W.heap.size W W') :
    s.post enc P f apart fresh false false W args (.bool true) W' := by
  have hlt : ∀ x ∈ before, x.block < W.heap.size := fun x hx => by simpa using hW.lt x hx
  have hW' := hW
  obtain ⟨p, q, hA, hV, rfl, _, _⟩ := hW
  rw [hv] at hV
  obtain ⟨rfl, rfl⟩ := trodVars_none hV
  refine ⟨ds, [], p ++ [], [], p, [], hW', ?_, ?_, ?_, hb.frame _, fun h => nomatch h⟩
  · rw [List.append_nil, hfn, hrt]
    exact trodAll_mk1 (shut_bool hB true)
  · rw [List.append_nil, hfn]
    exact trodAll_below hl hb _ _ _ _ hr hA (fun x hx => hlt x (by simp [hx]))
  · rw [hv]; rw [List.append_nil, hfn]; exact rfl
end
/-- A call from the outside: every block is one that was there. -/
theorem calls_of_ACall {P : Program} {f : FuncId} {W : World} {args : List Value} (h : ACall ⟨P, W⟩ f (args.map emb) (fun r _ _ => r = .bool true) 0 (fun _ => .dead)) :
    Calls P f args.toArray W fun e W' => e = .returned (.bool true) ∧ Below W.heap.size W W' := by
  have hst : St ⟨P, W⟩ 0 (fun _ => (0, 0)) (fun _ => .dead) W := ⟨Below.refl _ _, Nat.le_refl _, fun i hi => by omega, fun i hi => by omega, fun i j hi => by omega⟩
  have h1 := h (fun _ => (0, 0)) W hst (fun v hv => by
    obtain ⟨u, _, rfl⟩ := List.mem_map.1 hv
    exact und_emb _ _)
  have e1 : ((args.map emb).map (ren fun _ => (0, 0))).toArray = args.toArray := by
    rw [List.map_map]
    have : (ren (fun _ => (0, 0)) ∘ emb) = id := by funext v; exact ren_emb _ _
    rw [this, List.map_id]
  rw [e1] at h1
  refine h1.mono ?_
  rintro e W' ⟨n', J', r, H', rfl, h2, _, _, _, h3⟩
  subst h3
  exact ⟨by simp, h2.below⟩

/-! ### Opening arguments -/
@[simp] theorem emb_int (k : IntKind) (n : Int) : emb (.int k n) = .int k n := by simp [emb]
@[simp] theorem emb_bool (b : Bool) : emb (.bool b) = .bool b := by simp [emb]
@[simp] theorem emb_string (s : ByteArray) : emb (.string s) = .string s := by simp [emb]
@[simp] theorem emb_slice0 (l c : Nat) : emb (.slice none l c) = .slice none l c := by simp [emb]
@[simp] theorem emb_slice (a : Addr) (l c : Nat) : emb (.slice (some a) l c) = .slice (some ⟨old a.block, a.off, a.spot⟩) l c := by simp [emb]
section
variable {H : Type} {enc : TypeId × Value → H} {P : Program} {W : World}
/-- What is read of a value. -/
def Opens (enc : TypeId × Value → H) (P : Program) (W : World) (t : TypeId) (cs : List Value) : Prop := ∃ fuel x, DataW.trod enc P W 0 (fun _ => true) true fuel t cs = some x
theorem Opens.int {t : TypeId} {k : IntKind} {cs : List Value} (ht : P.underlying t = some (.int k)) (h : Opens enc P W t cs) : ∃ n, cs = [.int k n] ∧ (Lit.int k n).wf = true := by
  obtain ⟨fuel, x, h⟩ := h
  obtain ⟨n, rfl, _, hw⟩ := DataW.trod_int ht h
  exact ⟨n, rfl, hw⟩
theorem Opens.bool {t : TypeId} {cs : List Value} (ht : P.underlying t = some .bool) (h : Opens enc P W t cs) : ∃ b, cs = [.bool b] := by
  obtain ⟨fuel, x, h⟩ := h
  obtain ⟨n, rfl, _⟩ := DataW.trod_bool ht h
  exact ⟨n, rfl⟩
theorem Opens.string {t : TypeId} {cs : List Value} (ht : P.underlying t = some .string) (h : Opens enc P W t cs) : ∃ s : ByteArray, cs = [.string s] ∧ s.size ≤ maxLen := by
  obtain ⟨fuel, x, h⟩ := h
  obtain ⟨n, rfl, _, hw⟩ := DataW.trod_string ht h
  exact ⟨n, rfl, hw⟩
theorem Opens.struct {t : TypeId} {fs : Array Field} {cs : List Value} (ht : P.underlying t = some (.struct fs)) (h : Opens enc P W t cs) : cs.length = P.cellsOf t ∧ ∀ (i : Nat) (f : Field), fs[i]? = some f → Opens enc P W f.type ((cs.drop f.offset).take (P.cellsOf f.type)) := by
  obtain ⟨fuel, x, h⟩ := h
  obtain ⟨xs, n, _, _, hl, hlen, hf⟩ := DataW.trod_struct ht h
  refine ⟨hl, fun i f hi => ?_⟩
  have h1 := hf i f hi
  have : i < xs.length := by rw [hlen]; exact (Array.getElem?_eq_some_iff.1 hi).1
  rw [List.getElem?_eq_getElem this] at h1
  exact ⟨n, _, h1⟩
/-- A slice: its elements are of the form f y, and of each something is known. -/
theorem Opens.slice {α : Type} {t e sz : TypeId} {v : Value} {cs : List Value} {f : α → List Value} {Q : α → Prop} (ht : P.underlying t = some (.slice e)) (hc : P.cellsOf e = sz) (hp : 0 < sz)
    (hel : ∀ cs, Opens enc P W e cs → cs.length = sz → ∃ y : α, cs.map emb = f y ∧ Q y) (h : Opens enc P W t cs) (hcs : cs = [v]) (G : Heap) (D : Nat → Prop) :
    ∃ xs : List α, SlR ⟨P, W⟩ G D sz f (emb v) xs ∧ (∀ x ∈ xs, Q x) ∧ xs.length ≤ 9223372036854775807 := by
  subst hcs
  obtain ⟨fuel, x, h⟩ := h
  rcases Go.Deep.open_slice ht h with ⟨h1, _⟩ | ⟨a, len, cap, m, n, Df, Pl, h1, hb, hl, hm, hmm, _, hx⟩
  · simp only [List.cons.injEq, and_true] at h1
    subst h1
    exact ⟨[], ⟨hp, by simp, none, 0, by simp, Nat.le_refl _, by simp, fun _ => rfl, by simp⟩, by simp, by simp⟩
  · simp only [List.cons.injEq, and_true] at h1
    subst h1
    rw [hc] at hx
    simp only [if_true] at hmm
    subst hmm
    have key : ∀ i, i < m → ∃ y : α, (∃ cs', W.cells? 0 (a.add (i * sz)) sz = some cs' ∧ cs'.map emb = f y) ∧ Q y := fun i hi => by
      obtain ⟨cs', h2, h3⟩ := hx i hi
      obtain ⟨_, hlen, _⟩ := World.cells?_some h2
      obtain ⟨y, h4, h5⟩ := hel cs' ⟨_, _, h3⟩ hlen
      exact ⟨y, ⟨cs', h2, h4⟩, h5⟩
    have hxs : ∃ xs : List α, xs.length = len ∧ ∀ i (hi : i < xs.length), (∃ cs', W.cells? 0 (a.add (i * sz)) sz = some cs' ∧ cs'.map emb = f xs[i]) ∧ Q xs[i] := by
      have : ∀ q, q ≤ m → ∃ xs : List α, xs.length = q ∧ ∀ i (hi : i < xs.length), (∃ cs', W.cells? 0 (a.add (i * sz)) sz = some cs' ∧ cs'.map emb = f xs[i]) ∧ Q xs[i] := by
        intro q
        induction q with
        | zero => exact fun _ => ⟨[], rfl, fun i hi => absurd hi (Nat.not_lt_zero _)⟩
        | succ q ih =>
          intro hq
          obtain ⟨xs, h1, h2⟩ := ih (by omega)
          obtain ⟨y, hy⟩ := key q (by omega)
          refine ⟨xs ++ [y], by simp [h1], fun i hi => ?_⟩
          by_cases hiq : i < xs.length
          · rw [List.getElem_append_left hiq]; exact h2 i hiq
          · have : i = q := by simp at hi; omega
            subst this
            rw [List.getElem_append_right (by omega)]
            simpa [h1] using hy
      exact this len (by omega)
    obtain ⟨xs, hlen, hxs⟩ := hxs
    subst hlen
    refine ⟨xs, ?_, ?_, ?_⟩
    · have hf : ∀ i (hi : i < xs.length), (f xs[i]).length = sz ∧ getN ⟨P, W⟩ G ((⟨old a.block, a.off, a.spot⟩ : Addr).add (i * sz)) sz 0 = some (f xs[i]) := fun i hi => by
        obtain ⟨⟨cs', h1, h2⟩, _⟩ := hxs i hi
        obtain ⟨_, h3, h4⟩ := World.cells?_some h1
        refine ⟨by rw [← h2]; simpa using h3, ?_⟩
        refine getN_mk _ 0 _ (by rw [← h2]; simpa using h3) fun j u hj => ?_
        rw [← h2, List.getElem?_map] at hj
        obtain ⟨c, hc', rfl⟩ := Option.map_eq_some_iff.1 hj
        have hjs : j < sz := by rw [← h3]; exact (List.getElem?_eq_some_iff.1 hc').1
        have h5 := h4 j hjs
        rw [hc', Addr.add_add] at h5
        rw [Nat.zero_add, Addr.add_add]
        have hsp := World.cell?_spot h5
        have h6 : (a.add (i * sz + j)) = ⟨a.block, a.off + (i * sz + j), none⟩ := by
          revert hsp
          unfold Addr.add
          split
          · rename_i h0; intro hsp; cases a; simp_all
          · intro _; rfl
        have h7 : ((⟨old a.block, a.off, a.spot⟩ : Addr).add (i * sz + j)) = ⟨old a.block, a.off + (i * sz + j), none⟩ := by
          revert hsp
          unfold Addr.add
          split
          · rename_i h0; intro hsp; cases a; simp_all
          · intro _; rfl
        rw [h7, get_old]
        rw [h6] at h5
        rw [h5]; rfl
      refine ⟨hp, fun x hx => ?_, some ⟨old a.block, a.off, a.spot⟩, m, by rw [emb_slice], hl, fun _ => rfl, by simp, fun b hb' => ?_⟩
      · obtain ⟨i, hi, rfl⟩ := List.getElem_of_mem hx
        exact (hf i hi).1
      · obtain rfl := Option.some.inj hb'
        refine ⟨fun ho => ?_, fun i hi => (hf i hi).2⟩
        simp only [old_even] at ho
        omega
    · intro x hx
      obtain ⟨i, hi, rfl⟩ := List.getElem_of_mem hx
      exact (hxs i hi).2
    · unfold maxLen at hm; omega
end
section
variable {H : Type} {enc : TypeId × Value → H} {P : Program} {W : World} {t b0 : TypeId} {v : Value} {d : DataW H} {p : List MemPlace}
theorem arg_int {k : IntKind} (ht : P.underlying t = some (.int k)) (hv : Value.okWide P W .any b0 t v) (h : DataW.Trod enc P W 0 (fun _ => true) true t v d p) : ∃ n, v = .int k n ∧ (Lit.int k n).wf = true := by
  obtain ⟨n, rfl, _, _, hw⟩ := open_int ht hv h
  exact ⟨n, rfl, hw⟩
theorem arg_bool (ht : P.underlying t = some .bool) (hv : Value.okWide P W .any b0 t v) (_ : DataW.Trod enc P W 0 (fun _ => true) true t v d p) : ∃ b, v = .bool b := okWide_bool ht hv
theorem arg_string (ht : P.underlying t = some .string) (hv : Value.okWide P W .any b0 t v) (h : DataW.Trod enc P W 0 (fun _ => true) true t v d p) : ∃ s : ByteArray, v = .string s ∧ s.size ≤ maxLen := by
  obtain ⟨s, rfl⟩ := okWide_string ht hv
  obtain ⟨fuel, h⟩ := h
  obtain ⟨s', h1, _, h2⟩ := DataW.trod_string ht h
  simp [Value.cells] at h1
  subst h1
  exact ⟨s, rfl, h2⟩
theorem arg_slice {e : TypeId} (ht : P.underlying t = some (.slice e)) (hv : Value.okWide P W .any b0 t v) (h : DataW.Trod enc P W 0 (fun _ => true) true t v d p) : Opens enc P W t [v] := by
  obtain ⟨a, l, c, rfl⟩ := okWide_slice ht hv
  obtain ⟨fuel, h⟩ := h
  exact ⟨fuel, _, h⟩
end
theorem wf64 {n : Int} (h : (Lit.int .i64 n).wf = true) : -9223372036854775808 ≤ n ∧ n ≤ 9223372036854775807 := by
  simpa [Lit.wf, IntKind.min, IntKind.max, IntKind.signed, IntKind.bits] using h
end Go.Aw
