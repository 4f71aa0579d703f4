/-
  The abstract machine, part 13: slices as lists, branches, loops with a list of live registers.
-/
import Derived.Test.YtmgadjflgiokeaaAw12
set_option linter.unusedSimpArgs false
set_option linter.unusedVariables false
namespace Go.Aw
open Go.RowKit

/-! ### Branches -/
section
variable {A B : Prop} {d : Tmp} {fr : Fr} {F G : Fr → Prop}
theorem cif_dec {p : Prop} [Decidable p] (h1 : p → A) (h2 : ¬ p → B) : cif (decide p) A B := ⟨fun h => h1 (by simpa using h), fun h => h2 (by simpa using h)⟩
theorem cif_beq {x y : Int} (h1 : x = y → A) (h2 : x ≠ y → B) : cif (x == y) A B := ⟨fun h => h1 (by simpa using h), fun h => h2 (by simpa using h)⟩
theorem cif_bne {x y : Int} (h1 : x = y → B) (h2 : x ≠ y → A) : cif (x != y) A B := ⟨fun h => h2 (by simpa using h), fun h => h1 (by simpa using h)⟩
theorem cif_var {b : Bool} (h1 : b = true → A) (h2 : b = false → B) : cif b A B := ⟨h1, h2⟩
@[simp ↓] theorem cif_not {b : Bool} : cif (!b) A B = cif b B A := by cases b <;> simp
theorem gif_dec {p : Prop} [Decidable p] (h1 : p → F ((d, .bool true) :: fr)) (h2 : ¬ p → G ((d, .bool false) :: fr)) : gif d (decide p) fr F G := ⟨fun h => h1 (by simpa using h), fun h => h2 (by simpa using h)⟩
theorem gif_beq {x y : Int} (h1 : x = y → F ((d, .bool true) :: fr)) (h2 : x ≠ y → G ((d, .bool false) :: fr)) : gif d (x == y) fr F G := ⟨fun h => h1 (by simpa using h), fun h => h2 (by simpa using h)⟩
theorem gif_nbeq {x y : Int} (h1 : x ≠ y → F ((d, .bool true) :: fr)) (h2 : x = y → G ((d, .bool false) :: fr)) : gif d (!x == y) fr F G := ⟨fun h => h1 (by simpa using h), fun h => h2 (by simpa using h)⟩
theorem gif_ndec {p : Prop} [Decidable p] (h1 : ¬ p → F ((d, .bool true) :: fr)) (h2 : p → G ((d, .bool false) :: fr)) : gif d (!decide p) fr F G := ⟨fun h => h1 (by simpa using h), fun h => h2 (by simpa using h)⟩
theorem gif_bne {x y : Int} (h1 : x = y → G ((d, .bool false) :: fr)) (h2 : x ≠ y → F ((d, .bool true) :: fr)) : gif d (x != y) fr F G := ⟨fun h => h2 (by simpa using h), fun h => h1 (by simpa using h)⟩
theorem gif_var {b : Bool} (h1 : b = true → F ((d, .bool true) :: fr)) (h2 : b = false → G ((d, .bool false) :: fr)) : gif d b fr F G := ⟨h1, h2⟩
end

/-! ### Loops: the registers that are alive at the head -/
def FrLe : Fr → Fr → Prop
  | [], _ => True
  | (t, v) :: r, fr => lk t fr = some v ∧ FrLe r fr
@[simp] theorem FrLe_nil {fr : Fr} : FrLe [] fr = True := nr rfl
@[simp] theorem FrLe_cons {t : Nat} {v : Value} {r fr : Fr} : FrLe ((t, v) :: r) fr = (lk t fr = some v ∧ FrLe r fr) := nr rfl
theorem FrLe.lk {l fr : Fr} (h : FrLe l fr) {t : Nat} {v : Value} (ht : Aw.lk t l = some v) : Aw.lk t fr = some v := by
  induction l with
  | nil => cases ht
  | cons p r ih =>
    obtain ⟨s, u⟩ := p
    simp only [Aw.lk] at ht
    split at ht
    · rename_i e; subst e; obtain rfl := Option.some.inj ht; exact h.1
    · exact ih h.2 ht
theorem FrOk.le {N n : Nat} {J : Nat → Nat × Nat} {l fr : Fr} {a : Act} (h : FrOk N n J fr a) (hl : FrLe l fr) : FrOk N n J l a :=
  ⟨h.size, h.defers, fun t v ht => h.at_ t v (hl.lk ht)⟩
section
variable {X : Cx} {Q : Post} {n : Nat} {fr : Fr} {H : Heap}
theorem AW.le {c : Code} {l : Fr} (hl : FrLe l fr) (h : AW X c Q n l H) : AW X c Q n fr H := fun J a w hs hf => h J a w hs (hf.le hl)
/-- The next round: the state, smaller by the measure. -/
def Next {σ : Type} (m : σ → Nat) (F : σ → Fr) (I : σ → Nat → Heap → Prop) (s : σ) : Nat → Fr → Heap → Prop := fun n' fr' H' => ∃ s', m s' < m s ∧ FrLe (F s') fr' ∧ I s' n' H'
theorem Next.mk {σ : Type} {m : σ → Nat} {F : σ → Fr} {I : σ → Nat → Heap → Prop} {s : σ} (s' : σ) (h1 : m s' < m s) (h2 : FrLe (F s') fr) (h3 : I s' n H) : Next m F I s n fr H := ⟨s', h1, h2, h3⟩
theorem AW.while {σ : Type} (m : σ → Nat) (F : σ → Fr) (I : σ → Nat → Heap → Prop) (s0 : σ) {c : Code} (hF : FrLe (F s0) fr) (h0 : I s0 n H)
    (round : ∀ s n H, I s n H → evC X c (thenP (Next m F I s) Q) n (F s) H) : AW X (.loop c) Q n fr H := by
  refine AW.loop (fun k n fr H => ∃ s, m s = k ∧ FrLe (F s) fr ∧ I s n H) (m s0) ⟨s0, rfl, hF, h0⟩ ?_
  rintro k n fr H ⟨s, rfl, hl, hI⟩
  refine AW.le hl (AW.mono (evC_sound _ _ _ _ _ (round s n H hI)) ?_)
  intro e n' fr' H' h
  cases e <;> first | (obtain ⟨s', h1, h2, h3⟩ := h; exact ⟨m s', h1, s', rfl, h2, h3⟩) | exact h
theorem Next_congr {σ : Type} {m : σ → Nat} {F : σ → Fr} {I : σ → Nat → Heap → Prop} {s : σ} {n n' : Nat} {fr fr' : Fr} {H H' : Heap} (h : Aw.mk n = n') (h2 : Aw.mk H = H') : Next m F I s n fr H = Next m F I s n' fr H' := by rw [← h, ← h2]; rfl
attribute [congr] Next_congr
/-- A place where ways meet: the registers that are alive, and what holds. -/
def Join {σ : Type} (F : σ → Fr) (I : σ → Nat → Heap → Prop) : Nat → Fr → Heap → Prop := fun n fr H => ∃ s, FrLe (F s) fr ∧ I s n H
theorem Join.mk {σ : Type} {F : σ → Fr} {I : σ → Nat → Heap → Prop} (s : σ) (h1 : FrLe (F s) fr) (h2 : I s n H) : Join F I n fr H := ⟨s, h1, h2⟩
theorem Join_congr {σ : Type} {F : σ → Fr} {I : σ → Nat → Heap → Prop} {n n' : Nat} {fr fr' : Fr} {H H' : Heap} (h : Aw.mk n = n') (h2 : Aw.mk H = H') : Join F I n fr H = Join F I n' fr H' := by rw [← h, ← h2]; rfl
attribute [congr] Join_congr
theorem AW.ev {c : Code} (h : evC X c Q n fr H) : AW X c Q n fr H := evC_sound _ _ _ _ _ h
theorem AW.step {x y : Code} (h : evC X x (thenP (AW X y Q) Q) n fr H) : AW X (.seq x y) Q n fr H := AW.seq (evC_sound _ _ _ _ _ h)
theorem AW.cut {σ : Type} (F : σ → Fr) (I : σ → Nat → Heap → Prop) {x y : Code} (hy : ∀ s n H, I s n H → AW X y Q n (F s) H) (hx : evC X x (thenP (Join F I) Q) n fr H) : AW X (.seq x y) Q n fr H := by
  refine AW.seq (AW.mono (evC_sound _ _ _ _ _ hx) ?_)
  intro e n' fr' H' h
  cases e <;> first | (obtain ⟨s, h1, h2⟩ := h; exact AW.le h1 (hy s _ _ h2)) | exact h
theorem AW.cut2 {σ : Type} (F : σ → Fr) (I : σ → Nat → Heap → Prop) {x y z : Code} (hy : ∀ s n H, I s n H → AW X z Q n (F s) H) (hx : evC X (.seq x y) (thenP (Join F I) Q) n fr H) : AW X (.seq x (.seq y z)) Q n fr H := by
  refine AW.seq (AW.mono (evC_sound _ _ _ _ _ (show evC X x (thenP (evC X y (thenP (Join F I) Q)) (thenP (Join F I) Q)) n fr H from hx)) ?_)
  intro e n' fr' H' h
  cases e <;> first | exact AW.cut F I hy h | exact h
theorem ACall.code {C : Ctx} {f : FuncId} {fn : Func} {c : Code} {args : List Value} {K : Value → Nat → Heap → Prop} {N : Nat} {rs : Array ResultVar} (hf : C.P.funcs[f]? = some fn) (hb : fn.body = some c)
    (hn : fn.ntmps = N) (hr : fn.results = rs) (hN : args.length ≤ N) (h : ∀ J0, AW ⟨C, N, n, J0⟩ c (bpost C n rs.toList K) n (params 0 args) H) : ACall C f args K n H := by
  subst hn; subst hr
  exact ACall.enter hf hb hN fun _ _ J0 => h J0
end

/-! ### Slices -/
theorem Addr.add_add (a : Addr) (i j : Nat) : (a.add i).add j = a.add (i + j) := by
  unfold Addr.add
  by_cases hi : i = 0 <;> by_cases hj : j = 0 <;> simp [hi, hj, Nat.add_assoc]
/-- The address of element z of a slice. -/
def ptr (v : Value) (sz : Nat) (z : Int) : Addr := match v with
  | .slice (some a) _ _ => a.add (z.toNat * sz)
  | _ => default
/-- The list's element z. -/
def at_ {α : Type} [Inhabited α] (xs : List α) (z : Int) : α := xs.getD z.toNat default
theorem at_nat {α : Type} [Inhabited α] {xs : List α} {k : Nat} (h : k < xs.length) : at_ xs (k : Int) = xs[k] := by
  simp [at_, h]
theorem at_lt {α : Type} [Inhabited α] {xs : List α} {z : Int} (h0 : 0 ≤ z) (h : z < xs.length) : at_ xs z = xs[z.toNat]'(by omega) := by
  have : z.toNat < xs.length := by omega
  simp [at_, this]
theorem getN_mk {C : Ctx} {H : Heap} {a : Addr} : ∀ (k i : Nat) (l : List Value), l.length = k → (∀ j v, l[j]? = some v → get C H (a.add (i + j)) = some v) → getN C H a k i = some l
  | 0, i, l, hl, _ => by cases l with | nil => rfl | cons => simp at hl
  | k + 1, i, l, hl, h => by
    cases l with
    | nil => simp at hl
    | cons v r =>
      have h0 := h 0 v (by simp)
      have h1 := getN_mk (C := C) (H := H) (a := a) k (i + 1) r (by simpa using hl) (fun j u hj => by
        have := h (j + 1) u (by simpa using hj)
        rwa [show i + (j + 1) = i + 1 + j from by omega] at this)
      simp only [getN, Nat.add_zero] at h0 ⊢
      rw [h0, h1]
theorem get_hset {C : Ctx} {H : Heap} {a : Addr} {m : Nat} {o : AObj} (h : a.block % 2 = 1 → a.block / 2 ≠ m) : get C (hset m o H) a = get C H a := by
  unfold get
  split
  · rfl
  · split
    · rfl
    · rename_i h1
      rw [hset_ne (h (by omega))]
theorem get_eq {C : Ctx} {H H' : Heap} {a : Addr} (h : a.block % 2 = 1 → H' (a.block / 2) = H (a.block / 2)) : get C H' a = get C H a := by
  unfold get
  split
  · rfl
  · split
    · rfl
    · rename_i h1
      rw [h (by omega)]
theorem add_block (a : Addr) (i : Nat) : (a.add i).block = a.block := by unfold Addr.add; split <;> rfl
theorem getN_eq {C : Ctx} {H H' : Heap} {a : Addr} (h : a.block % 2 = 1 → H' (a.block / 2) = H (a.block / 2)) : ∀ k i, getN C H' a k i = getN C H a k i
  | 0, _ => rfl
  | k + 1, i => by
    simp only [getN]
    rw [get_eq (a := a.add i) (by rw [add_block]; exact h), getN_eq h k (i + 1)]
theorem loadA_frame {C : Ctx} {H H' : Heap} {t : TypeId} {a : Addr} (h : a.block % 2 = 1 → H' (a.block / 2) = H (a.block / 2)) : loadA C H' t a = loadA C H t a := by
  unfold loadA
  split
  · rw [getN_eq h]
  · exact get_eq h
  · rfl

/-- v is a slice that shows xs: of element x the cells f x, sz of them. D: the objects that it leads to. -/
structure SlR {α : Type} (C : Ctx) (H : Heap) (D : Nat → Prop) (sz : Nat) (f : α → List Value) (v : Value) (xs : List α) : Prop where
  pos : 0 < sz
  flen : ∀ x ∈ xs, (f x).length = sz
  shape : ∃ A c, v = .slice A xs.length c ∧ xs.length ≤ c ∧ (xs ≠ [] → A.isSome = true) ∧ (A = none → c = 0) ∧ ∀ a, A = some a → (a.block % 2 = 1 → D (a.block / 2)) ∧ ∀ i (h : i < xs.length), getN C H (a.add (i * sz)) sz 0 = some (f xs[i])
namespace SlR
variable {α : Type} {C : Ctx} {H H' : Heap} {D : Nat → Prop} {sz : Nat} {f : α → List Value} {v : Value} {xs : List α}
theorem frame (h : SlR C H D sz f v xs) (hD : ∀ i, D i → H' i = H i) : SlR C H' D sz f v xs := by
  obtain ⟨A, c, rfl, h1, h2, h3, h4⟩ := h.shape
  refine ⟨h.pos, h.flen, A, c, rfl, h1, h2, h3, fun a ha => ⟨(h4 a ha).1, fun i hi => ?_⟩⟩
  rw [getN_eq (by rw [add_block]; exact fun ho => hD _ ((h4 a ha).1 ho))]
  exact (h4 a ha).2 i hi
theorem mono (h : SlR C H D sz f v xs) {D' : Nat → Prop} (hD : ∀ i, D i → D' i) : SlR C H D' sz f v xs := by
  obtain ⟨A, c, rfl, h1, h2, h3, h4⟩ := h.shape
  exact ⟨h.pos, h.flen, A, c, rfl, h1, h2, h3, fun a ha => ⟨fun ho => hD _ ((h4 a ha).1 ho), (h4 a ha).2⟩⟩
theorem lenK (h : SlR C H D sz f v xs) : Aw.lenK .slice v = some (xs.length : Int) := by
  obtain ⟨A, c, rfl, _⟩ := h.shape; rfl
theorem ix (h : SlR C H D sz f v xs) {P : Program} {t e b : Nat} (he : elemS P t = some (e, sz, b)) {z : Int} {k : Value → Prop} (h0 : 0 ≤ z) (h1 : z < xs.length) : ixK P t v z k .slice = k (.pointer (some (ptr v sz z))) := by
  obtain ⟨A, c, rfl, g1, g2, g3, g4⟩ := h.shape
  have hA := g2 (by intro e; subst e; simp at h1; omega)
  cases A with
  | none => simp at hA
  | some a => simp [he, optK, asS, h0, h1, ptr]
theorem ptr_block (h : SlR C H D sz f v xs) {z : Int} (h0 : 0 ≤ z) (h1 : z < xs.length) : ∃ a : Addr, ptr v sz z = a.add (z.toNat * sz) ∧ (a.block % 2 = 1 → D (a.block / 2)) ∧ getN C H (a.add (z.toNat * sz)) sz 0 = some (f (xs[z.toNat]'(by omega))) := by
  obtain ⟨A, c, rfl, g1, g2, g3, g4⟩ := h.shape
  have hA := g2 (by intro e; subst e; simp at h1; omega)
  cases A with
  | none => simp at hA
  | some a => exact ⟨a, rfl, (g4 a rfl).1, (g4 a rfl).2 _ _⟩
theorem get_at (h : SlR C H D sz f v xs) [Inhabited α] {z : Int} (h0 : 0 ≤ z) (h1 : z < xs.length) {j : Nat} (hj : j < sz) : get C H ((ptr v sz z).add j) = (f (at_ xs z))[j]? := by
  obtain ⟨a, e, _, hg⟩ := h.ptr_block h0 h1
  rw [at_lt h0 h1]
  obtain ⟨g1, g2⟩ := getN_get _ _ _ hg
  rw [e]
  have : j < (f (xs[z.toNat]'(by omega))).length := by omega
  have := g2 j _ (List.getElem?_eq_getElem this)
  rw [Nat.zero_add] at this
  rw [this]
  simp [*]
theorem load (h : SlR C H D sz f v xs) [Inhabited α] {t s : Nat} {b : Bool} (hs : shp C.P t = some (b, s)) (s0 : 0 < s) {off : Nat} (ho : off + s ≤ sz) {z : Int} (h0 : 0 ≤ z) (h1 : z < xs.length) :
    loadA C H t ((ptr v sz z).add off) = (shp C.P t).bind (partS (f (at_ xs z)) off) := by
  have hl := h.flen (at_ xs z) (by rw [at_lt h0 h1]; exact List.getElem_mem _)
  have hg := fun j (hj : j < sz) => h.get_at h0 h1 hj
  unfold loadA
  rw [hs]
  cases b with
  | true =>
    simp only [Option.bind_some, partS_agg]
    rw [getN_mk s 0 (((f (at_ xs z)).drop off).take s) (by rw [List.length_take, List.length_drop]; omega) (fun j u hj => ?_)]
    rw [Nat.zero_add, Addr.add_add]
    rw [List.getElem?_take] at hj
    split at hj
    · rename_i hjs
      rw [hg _ (by omega)]
      rw [List.getElem?_drop] at hj
      exact hj
    · cases hj
  | false =>
    simp only [Option.bind_some, partS_one]
    exact hg off (by omega)
theorem load0 (h : SlR C H D sz f v xs) [Inhabited α] {t s : Nat} {b : Bool} (hs : shp C.P t = some (b, s)) (s0 : 0 < s) (ho : s ≤ sz) {z : Int} (h0 : 0 ≤ z) (h1 : z < xs.length) :
    loadA C H t (ptr v sz z) = (shp C.P t).bind (partS (f (at_ xs z)) 0) := by
  rw [← h.load hs s0 (off := 0) (by omega) h0 h1]; rfl
theorem odd (h : SlR C H D sz f v xs) {off : Nat} {z : Int} (h0 : 0 ≤ z) (h1 : z < xs.length) : ((ptr v sz z).add off).block % 2 = 1 → D (((ptr v sz z).add off).block / 2) := by
  obtain ⟨a, e, g, _⟩ := h.ptr_block h0 h1
  rw [e, add_block, add_block]; exact g
theorem cells (h : SlR C H D sz f v xs) : v.cells = #[v] := by
  obtain ⟨A, c, rfl, _⟩ := h.shape; rfl
theorem one (h : SlR C H D sz f v xs) : v.oneCell' = true := by
  obtain ⟨A, c, rfl, _⟩ := h.shape; simp
/-- A new object doesn't matter. -/
theorem fresh (h : SlR C H D sz f v xs) {n : Nat} (hD : ∀ i, D i → i < n) {m : Nat} {o : AObj} {G : Heap} {t off : Nat} {z : Int} (hm : n ≤ m) (h0 : 0 ≤ z) (h1 : z < xs.length) :
    loadA C (hset m o G) t ((ptr v sz z).add off) = loadA C G t ((ptr v sz z).add off) :=
  loadA_frame fun ho => hset_ne (by have := hD _ (h.odd h0 h1 ho); omega) o G
theorem fresh0 (h : SlR C H D sz f v xs) {n : Nat} (hD : ∀ i, D i → i < n) {m : Nat} {o : AObj} {G : Heap} {t : Nat} {z : Int} (hm : n ≤ m) (h0 : 0 ≤ z) (h1 : z < xs.length) :
    loadA C (hset m o G) t (ptr v sz z) = loadA C G t (ptr v sz z) := h.fresh hD (off := 0) hm h0 h1
/-- Nor does another one. -/
theorem apart (h : SlR C H D sz f v xs) {m : Nat} (hm : ¬ D m) {o : AObj} {G : Heap} {t off : Nat} {z : Int} (h0 : 0 ≤ z) (h1 : z < xs.length) :
    loadA C (hset m o G) t ((ptr v sz z).add off) = loadA C G t ((ptr v sz z).add off) :=
  loadA_frame fun ho => hset_ne (fun e => hm (by have := h.odd h0 h1 ho; rwa [e] at this)) o G
theorem apart0 (h : SlR C H D sz f v xs) {m : Nat} (hm : ¬ D m) {o : AObj} {G : Heap} {t : Nat} {z : Int} (h0 : 0 ≤ z) (h1 : z < xs.length) :
    loadA C (hset m o G) t (ptr v sz z) = loadA C G t (ptr v sz z) := h.apart hm (off := 0) h0 h1
/-- All cells, one behind the other. -/
theorem row (h : SlR C H D sz f v xs) : ∃ A c, v = .slice A xs.length c ∧ rowA C H A (xs.length * sz) = some (xs.flatMap f) := by
  obtain ⟨A, c, rfl, g1, g2, g3, g4⟩ := h.shape
  refine ⟨A, c, rfl, ?_⟩
  cases A with
  | none =>
    have : xs = [] := Decidable.byContradiction fun h => by have := g2 h; simp at this
    subst this
    simp [rowA]
  | some a =>
    simp only [rowA]
    have hg := (g4 a rfl).2
    have hl : ∀ l : List α, (∀ x ∈ l, (f x).length = sz) → (l.flatMap f).length = l.length * sz := by
      intro l
      induction l with
      | nil => simp
      | cons x r ih => intro hx; simp only [List.flatMap_cons, List.length_append, List.length_cons, hx x (by simp), ih (fun y hy => hx y (by simp [hy])), Nat.add_mul, Nat.one_mul, Nat.add_comm]
    refine getN_mk _ 0 _ (hl xs h.flen) fun j u hj => ?_
    have key : ∀ (l : List α) (i0 : Nat), (∀ i (hi : i < l.length), getN C H (a.add ((i0 + i) * sz)) sz 0 = some (f l[i])) → (∀ x ∈ l, (f x).length = sz) → ∀ j u, (l.flatMap f)[j]? = some u → get C H (a.add (i0 * sz + j)) = some u := by
      intro l
      induction l with
      | nil => intro i0 _ _ j u h; simp at h
      | cons x r ih =>
        intro i0 hx hln j u hj
        have hx0 := hln x (by simp)
        simp only [List.flatMap_cons] at hj
        by_cases hjs : j < sz
        · rw [List.getElem?_append_left (by omega)] at hj
          have h0 := hx 0 (by simp)
          have := (getN_get _ _ _ h0).2 j u hj
          rwa [Nat.zero_add, Nat.add_zero, Addr.add_add] at this
        · rw [List.getElem?_append_right (by omega), hx0] at hj
          have := ih (i0 + 1) (fun i hi => by
            have := hx (i + 1) (by simpa using hi)
            rw [show i0 + (i + 1) = i0 + 1 + i from by omega] at this
            simpa using this) (fun y hy => hln y (by simp [hy])) (j - sz) u hj
          rwa [Nat.add_mul, Nat.one_mul, Nat.add_assoc, show sz + (j - sz) = j from by omega] at this
    have := key xs 0 (fun i hi => by rw [Nat.zero_add]; exact hg i hi) h.flen j u hj
    rwa [Nat.zero_mul] at this
end SlR

/-- v is a slice of the program's own: nil, or the head of object j, which nobody else writes. T: the elements' type. -/
structure OwR {α : Type} (C : Ctx) (H : Heap) (n : Nat) (D : Nat → Prop) (T sz : Nat) (f : α → List Value) (v : Value) (xs : List α) : Prop where
  pos : 0 < sz
  flen : ∀ x ∈ xs, (f x).length = sz
  shape : (v = .slice none 0 0 ∧ xs = [] ∧ ∀ i, ¬ D i) ∨ ∃ j c cs, v = .slice (some ⟨new j, 0, none⟩) xs.length c ∧ xs.length ≤ c ∧ c * sz = cs.length ∧ j < n ∧ (∀ i, D i ↔ i = j) ∧ H j = .cells cs T sz ∧ cs.take (xs.length * sz) = xs.flatMap f
namespace OwR
variable {α : Type} {C : Ctx} {H H' : Heap} {n : Nat} {D : Nat → Prop} {T sz : Nat} {f : α → List Value} {v : Value} {xs : List α}
theorem lt (h : OwR C H n D T sz f v xs) : ∀ i, D i → i < n := by
  intro i hi
  rcases h.shape with ⟨_, _, h⟩ | ⟨j, c, cs, _, _, _, hj, hD, _⟩
  · exact absurd hi (h i)
  · rw [(hD i).1 hi]; exact hj
theorem frame (h : OwR C H n D T sz f v xs) {m : Nat} (hm : n ≤ m) (hD : ∀ i, D i → H' i = H i) : OwR C H' m D T sz f v xs := by
  refine ⟨h.pos, h.flen, ?_⟩
  rcases h.shape with h | ⟨j, c, cs, h1, h2, h3, h4, h5, h6, h7⟩
  · exact .inl h
  · exact .inr ⟨j, c, cs, h1, h2, h3, Nat.lt_of_lt_of_le h4 hm, h5, by rw [hD j ((h5 j).2 rfl), h6], h7⟩
theorem flat_len {l : List α} (h : ∀ x ∈ l, (f x).length = sz) : (l.flatMap f).length = l.length * sz := by
  induction l with
  | nil => simp
  | cons x r ih => simp only [List.flatMap_cons, List.length_append, List.length_cons, h x (by simp), ih (fun y hy => h y (by simp [hy])), Nat.add_mul, Nat.one_mul, Nat.add_comm]
theorem flat_get {l : List α} (h : ∀ x ∈ l, (f x).length = sz) (i : Nat) (hi : i < l.length) (j : Nat) (hj : j < sz) : (l.flatMap f)[i * sz + j]? = (f l[i])[j]? := by
  induction l generalizing i with
  | nil => simp at hi
  | cons x r ih =>
    have hx := h x (by simp)
    simp only [List.flatMap_cons]
    cases i with
    | zero => rw [Nat.zero_mul, Nat.zero_add, List.getElem?_append_left (by omega)]; rfl
    | succ i =>
      rw [List.getElem?_append_right (by rw [hx, Nat.add_mul]; omega), hx, show (i + 1) * sz + j - sz = i * sz + j from by rw [Nat.add_mul]; omega]
      exact ih (fun y hy => h y (by simp [hy])) i (by simpa using hi)
theorem sl (h : OwR C H n D T sz f v xs) : SlR C H D sz f v xs := by
  refine ⟨h.pos, h.flen, ?_⟩
  rcases h.shape with ⟨rfl, rfl, hD⟩ | ⟨j, c, cs, rfl, h2, h3, h4, h5, h6, h7⟩
  · exact ⟨none, 0, rfl, Nat.le_refl _, by simp, fun _ => rfl, by simp⟩
  · refine ⟨some ⟨new j, 0, none⟩, c, rfl, h2, fun _ => rfl, by simp, fun a ha => ?_⟩
    obtain rfl := Option.some.inj ha
    refine ⟨fun _ => by simp only [new_half]; exact (h5 j).2 rfl, fun i hi => ?_⟩
    refine getN_mk _ 0 _ (h.flen _ (List.getElem_mem _)) fun q u hq => ?_
    have hqs : q < sz := by
      have := (List.getElem?_eq_some_iff.1 hq).1
      rwa [h.flen _ (List.getElem_mem _)] at this
    rw [Nat.zero_add, Addr.add_add, Addr.add_lit, get_new, h6, gcell_cells, Nat.zero_add]
    rw [← flat_get h.flen i hi q hqs, ← h7, List.getElem?_take] at hq
    split at hq
    · exact hq
    · cases hq
theorem nil {n : Nat} (hp : 0 < sz) : OwR C H n (fun _ => False) T sz f (.slice none 0 0) ([] : List α) := ⟨hp, by simp, .inl ⟨rfl, rfl, fun _ h => h⟩⟩
/-- A literal of no elements. -/
theorem empty {n j : Nat} (hp : 0 < sz) (hj : j < n) (h : H j = .cells [] T sz) : OwR C H n (· = j) T sz f (.slice (some ⟨new j, 0, none⟩) 0 0) ([] : List α) :=
  ⟨hp, by simp, .inr ⟨j, 0, [], rfl, Nat.le_refl _, by simp, hj, fun _ => Iff.rfl, h, by simp⟩⟩
/-- A literal. -/
theorem lit {n j l : Nat} {cs : List Value} (hp : 0 < sz) (hf : ∀ x ∈ xs, (f x).length = sz) (hj : j < n) (h : H j = .cells cs T sz) (hc : cs = xs.flatMap f) (hl : l = xs.length) : OwR C H n (· = j) T sz f (.slice (some ⟨new j, 0, none⟩) l l) xs := by
  subst hc; subst hl
  have := flat_len hf
  exact ⟨hp, hf, .inr ⟨j, xs.length, _, rfl, Nat.le_refl _, this.symm, hj, fun _ => Iff.rfl, h, by rw [← this, List.take_length]⟩⟩
/-- Something is appended. -/
theorem append (h : OwR C H n D T sz f v xs) {t b : Nat} {z : List Value} (he : elemS C.P t = some (T, sz, b)) (hz : zeroA C.P T = some z) (hzl : z.length = sz) {ys : List α} {B : Option Addr} {d : Nat} (hy : ∀ y ∈ ys, (f y).length = sz)
    (hrow : rowA C H B (ys.length * sz) = some (ys.flatMap f)) (hone : oneAll (ys.flatMap f) = true) (hb : (xs.length + ys.length) * b ≤ 140737488355328) (hl : xs.length + ys.length ≤ 140737488355328) {k : Value → Nat → Heap → Prop}
    (hk : ∀ v' n' H' D', n ≤ n' → n' ≤ n + 1 → (∀ i, i < n → ¬ D i → H' i = H i) → (∀ i, D' i → D i ∨ i = n) → OwR C H' n' D' T sz f v' (xs ++ ys) → k v' n' H') :
    appK C H t n v (.slice B ys.length d) k := by
  have hxy : ∀ x ∈ xs ++ ys, (f x).length = sz := fun x hx => by
    rcases List.mem_append.1 hx with hx | hx
    · exact h.flen x hx
    · exact hy x hx
  have hflx := flat_len h.flen
  have hfly := flat_len hy
  rcases h.shape with ⟨rfl, rfl, hD⟩ | ⟨j, c, cs, rfl, h2, h3, h4, h5, h6, h7⟩
  · rw [appK_eq, he, optK_some]
    simp only [hz, optK_some]
    refine ⟨⟨hzl, h.pos, by simpa using hb, by simpa using hl⟩, ?_⟩
    rw [hrow, optK_some]
    refine ⟨hone, ?_⟩
    rw [appA_none]
    by_cases hm : ys.length = 0
    · obtain rfl := List.eq_nil_of_length_eq_zero hm
      rw [if_pos hm, if_pos (Nat.le_refl _), optK_some, appF_same]
      exact hk _ n H (fun _ => False) (Nat.le_refl _) (by omega) (fun _ _ _ => rfl) (fun _ h => h.elim) (by simpa using (OwR.nil (C := C) (H := H) (n := n) (T := T) (f := f) h.pos))
    · rw [if_neg hm, if_pos ⟨rfl, rfl⟩, optK_some, appF_grow, Nat.zero_add]
      refine hk _ (n + 1) _ (· = n) (by omega) (by omega) (fun i hi _ => hset_ne (by omega) _ _) (fun _ h => .inr h) ?_
      exact OwR.lit h.pos (by simpa using hy) (by omega) (hset_same _ _ _) (by simp) (by simp)
  · rw [appK_eq, he, optK_some]
    simp only [hz, optK_some]
    refine ⟨⟨hzl, h.pos, hb, hl⟩, ?_⟩
    rw [hrow, optK_some]
    refine ⟨hone, ?_⟩
    rw [appA_new, h6]
    by_cases hm : ys.length = 0
    · obtain rfl := List.eq_nil_of_length_eq_zero hm
      rw [if_pos hm, if_pos h2, optK_some, appF_same]
      refine hk _ n H D (Nat.le_refl _) (by omega) (fun _ _ _ => rfl) (fun _ h => .inl h) ?_
      rw [List.append_nil]; exact h
    · rw [if_neg hm, appN_cells, if_pos ⟨rfl, rfl, h3, h2⟩]
      by_cases hroom : xs.length + ys.length ≤ c
      · rw [if_pos hroom, optK_some, appF_room]
        refine hk _ n _ D (Nat.le_refl _) (by omega) (fun i _ hi => hset_ne (fun e => hi ((h5 i).2 e)) _ _) (fun _ h => .inl h) ?_
        refine ⟨h.pos, hxy, .inr ⟨j, c, _, by rw [List.length_append], by rw [List.length_append]; exact hroom, ?_, h4, h5, hset_same _ _ _, ?_⟩⟩
        · have h8 : (xs.length + ys.length) * sz ≤ c * sz := Nat.mul_le_mul_right _ hroom
          rw [Nat.add_mul] at h8
          rw [List.length_append, List.length_append, List.length_take, List.length_drop, hfly]
          omega
        · rw [h7, List.flatMap_append, List.length_append, Nat.add_mul]
          rw [← hflx, ← hfly, ← List.length_append, List.take_left]
      · rw [if_neg hroom, optK_some, appF_grow]
        refine hk _ (n + 1) _ (· = n) (by omega) (by omega) (fun i hi hDi => ?_) (fun _ h => .inr h) ?_
        · rw [hset_ne (by omega), hset_ne (fun e => hDi ((h5 i).2 e))]
        · refine OwR.lit h.pos hxy (by omega) (hset_same _ _ _) (by rw [h7, List.flatMap_append]) (by rw [List.length_append])
/-- One element is appended. -/
theorem push (h : OwR C H n D T sz f v xs) {t b : Nat} {z : List Value} (he : elemS C.P t = some (T, sz, b)) (hz : zeroA C.P T = some z) (hzl : z.length = sz) (y : α) {cs : List Value} (hcs : cs = f y) (hy : (f y).length = sz)
    (hone : oneAll (f y) = true) (hb : (xs.length + 1) * b ≤ 140737488355328) (hl : xs.length + 1 ≤ 140737488355328) {k : Value → Nat → Heap → Prop}
    (hk : ∀ v' n' H' D', n + 1 ≤ n' → n' ≤ n + 2 → (∀ i, i < n → ¬ D i → H' i = H i) → (∀ i, D' i → D i ∨ n < i) → OwR C H' n' D' T sz f v' (xs ++ [y]) → k v' n' H') :
    appK C (hset n (.cells cs T sz) H) t (n + 1) v (.slice (some ⟨new n, 0, none⟩) 1 1) k := by
  have h' : OwR C (hset n (.cells cs T sz) H) (n + 1) D T sz f v xs := h.frame (by omega) (fun i hi => hset_ne (by have := h.lt i hi; omega) _ _)
  subst hcs
  refine h'.append he hz hzl (ys := [y]) (by simpa using hy) ?_ (by simpa using hone) hb hl ?_
  · simp only [rowA_at, List.length_cons, List.length_nil, Nat.zero_add, Nat.one_mul, List.flatMap_cons, List.flatMap_nil, List.append_nil]
    refine getN_mk _ 0 _ hy fun j u hj => ?_
    rw [Nat.zero_add, Addr.add_lit, get_new, hset_same, gcell_cells, Nat.zero_add, hj]
  · intro v' n' H' D' h1 h2 h3 h4 h5
    refine hk v' n' H' D' h1 h2 (fun i hi hDi => ?_) (fun i hi => ?_) h5
    · rw [h3 i (by omega) hDi, hset_ne (by omega)]
    · rcases h4 i hi with h | h
      · exact .inl h
      · exact .inr (by omega)
/-- Another slice's elements are appended. -/
theorem appendS (h : OwR C H n D T sz f v xs) {t b : Nat} {z : List Value} (he : elemS C.P t = some (T, sz, b)) (hz : zeroA C.P T = some z) (hzl : z.length = sz) {u : Value} {ys : List α} {E : Nat → Prop} (hy : SlR C H E sz f u ys)
    (hone : ∀ y ∈ ys, oneAll (f y) = true) (hb : (xs.length + ys.length) * b ≤ 140737488355328) (hl : xs.length + ys.length ≤ 140737488355328) {k : Value → Nat → Heap → Prop}
    (hk : ∀ v' n' H' D', n ≤ n' → n' ≤ n + 1 → (∀ i, i < n → ¬ D i → H' i = H i) → (∀ i, D' i → D i ∨ i = n) → OwR C H' n' D' T sz f v' (xs ++ ys) → k v' n' H') : appK C H t n v u k := by
  obtain ⟨A, c, rfl, hr⟩ := hy.row
  refine h.append he hz hzl hy.flen hr ?_ hb hl hk
  have key : ∀ l : List α, (∀ y ∈ l, oneAll (f y) = true) → oneAll (l.flatMap f) = true := by
    intro l hl
    unfold oneAll at *
    rw [List.all_eq_true]
    intro x hx
    obtain ⟨y, hy, hx⟩ := List.mem_flatMap.1 hx
    exact List.all_eq_true.1 (hl y hy) x hx
  exact key ys hone
end OwR
theorem SlR.nil {α : Type} {C : Ctx} {H : Heap} {D : Nat → Prop} {sz : Nat} {f : α → List Value} (hp : 0 < sz) : SlR C H D sz f (.slice none 0 0) ([] : List α) :=
  ⟨hp, by simp, none, 0, rfl, Nat.le_refl _, by simp, fun _ => rfl, by simp⟩
end Go.Aw
