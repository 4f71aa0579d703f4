/-
  The abstract machine, part 17: parts of slices, the builtin clear, nil, made rows; what a function of the library that takes elements away leaves.
-/
import Derived.Test.YtmgadjflgiokeaaAw15
set_option linter.unusedSimpArgs false
set_option linter.unusedVariables false
namespace Go.Aw
open Go.RowKit

/-- Whether a slice is nil. -/
def nilS : Value → Bool
  | .slice none _ _ => true
  | _ => false
section
variable {α : Type} {C : Ctx} {H : Heap} {n : Nat} {D : Nat → Prop} {T sz : Nat} {f : α → List Value} {v : Value} {xs : List α} {t : TypeId}
theorem SlR.eqNil (h : SlR C H D sz f v xs) (htk : tk C.P t = .slice) {k : Value → Prop} : binK C.P .eql t v (.slice none 0 0) k = k (.bool (nilS v)) := by
  obtain ⟨A, c, rfl, _⟩ := h.shape
  cases A <;> simp [binK, optK, eqA_eqK, htk, nilS]
theorem SlR.neqNil (h : SlR C H D sz f v xs) (htk : tk C.P t = .slice) {k : Value → Prop} : binK C.P .neq t v (.slice none 0 0) k = k (.bool !(nilS v)) := by
  obtain ⟨A, c, rfl, _⟩ := h.shape
  cases A <;> simp [binK, optK, eqA_eqK, htk, nilS]
theorem SlR.of_nil (h : SlR C H D sz f v xs) (hn : nilS v = true) : xs = [] ∧ v = .slice none 0 0 := by
  obtain ⟨A, c, rfl, h1, h2, h3, _⟩ := h.shape
  cases A with
  | none =>
    have : xs = [] := Decidable.byContradiction fun h => by have := h2 h; simp at this
    subst this
    exact ⟨rfl, by rw [h3 rfl]; rfl⟩
  | some a => simp [nilS] at hn
/-- A slice without its first j elements. -/
theorem SlR.tail (h : SlR C H D sz f v xs) (htk : tk C.P t = .slice) {e b : Nat} (he : elemS C.P t = some (e, sz, b)) {j : Nat} (hj : j ≤ xs.length) {q : IntKind} {k : Value → Prop}
    (hk : ∀ v', SlR C H D sz f v' (xs.drop j) → k v') : sliceA C.P t v (some (q, (j : Int))) none k := by
  obtain ⟨A, c, rfl, h1, h2, h3, h4⟩ := h.shape
  unfold sliceA
  rw [htk]
  simp only [he, optK, lowI_some, highI_none]
  refine ⟨by omega, ?_⟩
  have hl : (xs.drop j).length = xs.length - j := by simp
  have hfl : ∀ x ∈ xs.drop j, (f x).length = sz := fun x hx => h.flen x (List.mem_of_mem_drop hx)
  split
  · rename_i h0
    obtain rfl : j = 0 := by omega
    refine hk _ ?_
    rw [List.drop_zero]
    exact ⟨h.pos, h.flen, A, c, by simp, h1, h2, h3, h4⟩
  · rename_i h0
    have key : SlR C H D sz f (.slice (A.map fun a => a.add ((j : Int).toNat * sz)) ((xs.length : Int).toNat - (j : Int).toNat) (c - (j : Int).toNat)) (xs.drop j) := by
      refine ⟨h.pos, hfl, A.map fun a => a.add (j * sz), c - j, by rw [hl]; simp, by omega, fun hne => ?_, fun hn => ?_, fun a ha => ?_⟩
      · have := h2 (fun e => hne (by simp [e]))
        simpa using this
      · have := h3 (by simpa using hn); omega
      · obtain ⟨a', rfl, rfl⟩ := Option.map_eq_some_iff.1 ha
        obtain ⟨g1, g2⟩ := h4 a' rfl
        refine ⟨by rw [add_block]; exact g1, fun i hi => ?_⟩
        rw [Addr.add_add, ← Nat.add_mul, g2 (j + i) (by rw [hl] at hi; omega)]
        simp
    split
    · exact hk _ key
    · have hjl : j = xs.length := by omega
      have hd : xs.drop j = [] := by rw [hjl]; simp
      have e : ((xs.length : Int).toNat - (j : Int).toNat) = 0 := by omega
      have e2 : c - (j : Int).toNat = 0 := by omega
      rw [e, e2] at key
      refine ⟨hk _ ?_, hk _ key⟩
      rw [hd]
      exact ⟨h.pos, by simp, A, 0, rfl, Nat.le_refl _, by simp, fun _ => rfl, fun a ha => ⟨(h4 a ha).1, by simp⟩⟩
/-- A slice's first part. -/
theorem SlR.head {α : Type} {C : Ctx} {H : Heap} {D : Nat → Prop} {sz : Nat} {f : α → List Value} {v : Value} {xs : List α} (h : SlR C H D sz f v xs) {t : TypeId} (htk : tk C.P t = .slice) {e s b : Nat} (he : elemS C.P t = some (e, s, b)) {j : Nat} (hj : j ≤ xs.length) {q : IntKind} {k : Value → Prop}
    (hk : ∀ v', SlR C H D sz f v' (xs.take j) → k v') : sliceA C.P t v none (some (q, (j : Int))) k := by
  obtain ⟨A, c, rfl, h1, h2, h3, h4⟩ := h.shape
  unfold sliceA
  rw [htk]
  simp only [he, optK, lowI_none, highI_some, if_true]
  refine ⟨by omega, ?_⟩
  apply hk
  have hl : (xs.take j).length = j := by simp; omega
  refine ⟨h.pos, fun x hx => h.flen x (List.mem_of_mem_take hx), A, c, by rw [hl]; simp, by omega, fun hne => h2 (fun e => hne (by simp [e])), h3, fun a ha => ⟨(h4 a ha).1, fun i hi => ?_⟩⟩
  rw [(h4 a ha).2 i (by omega)]
  simp
/-- The value of v[:j]. -/
def headV (v : Value) (j : Nat) : Value := match v with
  | .slice A _ c => .slice A j c
  | v => v
theorem OwR.headEq (h : OwR C H n D T sz f v xs) (htk : tk C.P t = .slice) {e s b : Nat} (he : elemS C.P t = some (e, s, b)) {j : Nat} (hj : j ≤ xs.length) {q : IntKind} {k : Value → Prop} : sliceA C.P t v none (some (q, (j : Int))) k = k (headV v j) := by
  have hs : ∃ A c, v = .slice A xs.length c ∧ xs.length ≤ c := by
    rcases h.shape with ⟨rfl, rfl, _⟩ | ⟨a, c, cs, rfl, h2, _⟩
    · exact ⟨none, 0, rfl, Nat.le_refl _⟩
    · exact ⟨_, c, rfl, h2⟩
  obtain ⟨A, c, rfl, hc⟩ := hs
  unfold sliceA
  rw [htk]
  simp only [he, optK, lowI_none, highI_some, if_true, headV, Int.toNat_natCast]
  exact propext ⟨fun h => h.2, fun h => ⟨by omega, h⟩⟩
theorem OwR.head (h : OwR C H n D T sz f v xs) {j : Nat} (hj : j ≤ xs.length) : OwR C H n D T sz f (headV v j) (xs.take j) := by
  have hl : (xs.take j).length = j := by simp; omega
  rcases h.shape with ⟨rfl, rfl, hD⟩ | ⟨a, c, cs, rfl, h2, h3, h4, h5, h6, h7⟩
  · obtain rfl : j = 0 := by simpa using hj
    exact ⟨h.pos, by simp, .inl ⟨rfl, rfl, hD⟩⟩
  · refine ⟨h.pos, fun x hx => h.flen x (List.mem_of_mem_take hx), .inr ⟨a, c, cs, by rw [hl]; rfl, by omega, h3, h4, h5, h6, ?_⟩⟩
    rw [hl]
    have hx : xs.flatMap f = (xs.take j).flatMap f ++ (xs.drop j).flatMap f := by rw [← List.flatMap_append, List.take_append_drop]
    have hfl := OwR.flat_len (f := f) (sz := sz) (l := xs.take j) (fun x hx => h.flen x (List.mem_of_mem_take hx))
    rw [hl] at hfl
    rw [hx] at h7
    have h8 := congrArg (fun l => l.take (j * sz)) h7
    simp only [List.take_take] at h8
    rw [Nat.min_eq_left (Nat.mul_le_mul_right _ hj), ← hfl, List.take_left] at h8
    rw [← hfl]; exact h8
/-- v' is v[j:]. -/
def IsTail (sz : Nat) (v : Value) (j : Nat) (v' : Value) : Prop := ∃ A l c, v = .slice A l c ∧ (j = 0 ∧ v' = v ∨ v' = .slice (A.map fun a => a.add (j * sz)) (l - j) (c - j) ∨ j = l ∧ ∃ A', v' = .slice A' 0 0)
theorem OwR.tail (h : OwR C H n D T sz f v xs) (htk : tk C.P t = .slice) {e b : Nat} (he : elemS C.P t = some (e, sz, b)) {j : Nat} (hj : j ≤ xs.length) {q : IntKind} {k : Value → Prop} (hk : ∀ v', IsTail sz v j v' → k v') : sliceA C.P t v (some (q, (j : Int))) none k := by
  have hs : ∃ A c, v = .slice A xs.length c ∧ xs.length ≤ c := by
    rcases h.shape with ⟨rfl, rfl, _⟩ | ⟨a, c, cs, rfl, h2, _⟩
    · exact ⟨none, 0, rfl, Nat.le_refl _⟩
    · exact ⟨_, c, rfl, h2⟩
  obtain ⟨A, c, rfl, hc⟩ := hs
  unfold sliceA
  rw [htk]
  simp only [he, optK, lowI_some, highI_none]
  refine ⟨by omega, ?_⟩
  split
  · exact hk _ ⟨A, _, c, rfl, .inl ⟨by omega, by simp⟩⟩
  · split
    · exact hk _ ⟨A, _, c, rfl, .inr (.inl (by simp))⟩
    · exact ⟨hk _ ⟨A, _, c, rfl, .inr (.inr ⟨by omega, _, rfl⟩)⟩, hk _ ⟨A, _, c, rfl, .inr (.inr ⟨by omega, _, rfl⟩)⟩⟩
theorem reps_len (z : List Value) (m : Nat) : (reps m z).length = m * z.length := reps_length z m
theorem oneAll_reps {z : List Value} (h : oneAll z = true) : ∀ m, oneAll (reps m z) = true
  | 0 => rfl
  | m + 1 => by
    have := oneAll_reps h m
    unfold oneAll at *
    rw [reps, List.all_append, h, this]; rfl
/-- clear(v[j:]) -/
theorem OwR.clear (h : OwR C H n D T sz f v xs) (htk : tk C.P t = .slice) {b : Nat} (he : elemS C.P t = some (T, sz, b)) {z : List Value} (hz : zeroA C.P T = some z) (hzl : z.length = sz) (hzo : oneAll z = true) {j : Nat} (hj : j ≤ xs.length) {v' : Value} (ht : IsTail sz v j v') {k : Heap → Prop}
    (hk : ∀ H', (∀ i, ¬ D i → H' i = H i) → OwR C H' n D T sz f (headV v j) (xs.take j) → k H') : clearK C H t v' k := by
  obtain ⟨A, l, c0, hv, ht⟩ := ht
  have hh := h.head hj
  rcases h.shape with ⟨rfl, rfl, hD⟩ | ⟨a, c, cs, rfl, h2, h3, h4, h5, h6, h7⟩
  · obtain ⟨rfl, rfl, rfl⟩ : A = none ∧ l = 0 ∧ c0 = 0 := by cases hv; exact ⟨rfl, rfl, rfl⟩
    have hv' : ∃ A' c', v' = .slice A' 0 c' := by
      rcases ht with ⟨_, rfl⟩ | rfl | ⟨_, A', rfl⟩
      · exact ⟨_, _, rfl⟩
      · exact ⟨_, _, by rw [Nat.zero_sub]⟩
      · exact ⟨_, _, rfl⟩
    obtain ⟨A', c', rfl⟩ := hv'
    exact ⟨A', 0, c', rfl, htk, .inl ⟨rfl, hk H (fun _ _ => rfl) hh⟩⟩
  · obtain ⟨rfl, rfl, rfl⟩ : A = some ⟨new a, 0, none⟩ ∧ l = xs.length ∧ c = c0 := by
      simp only [Value.slice.injEq] at hv
      exact ⟨hv.1.symm, hv.2.1.symm, hv.2.2⟩
    have key : ∀ A' c', A' = some (⟨new a, j * sz, none⟩ : Addr) → clearK C H t (.slice A' (xs.length - j) c') k := by
      rintro _ c' rfl
      by_cases hjl : j = xs.length
      · rw [hjl, Nat.sub_self]
        exact ⟨_, 0, c', rfl, htk, .inl ⟨rfl, hk H (fun _ _ => rfl) hh⟩⟩
      · have hle : xs.length * sz ≤ cs.length := by rw [← h3]; exact Nat.mul_le_mul_right _ h2
        have hrl : (reps (xs.length - j) z).length = (xs.length - j) * sz := by rw [reps_len, hzl]
        have hsum : j * sz + (xs.length - j) * sz = xs.length * sz := by rw [← Nat.add_mul]; congr 1; omega
        refine ⟨_, _, c', rfl, htk, .inr ⟨_, T, sz, b, z, hset a (.cells (setN cs (j * sz) (reps (xs.length - j) z)) T sz) H, rfl, by omega, he, hz, by rw [hzl]; exact h.pos, ?_, ?_⟩⟩
        · unfold putA
          simp only [new_odd, new_half, oneAll_reps hzo, h6, hrl]
          rw [if_pos (by simp), if_pos (by omega)]
        · refine hk _ (fun i hi => hset_ne (fun e => hi ((h5 i).2 e)) _ _) ?_
          have hl : (xs.take j).length = j := by simp; omega
          rcases hh.shape with ⟨g1, _⟩ | ⟨a', c2, cs2, g1, g2, g3, g4, g5, g6, g7⟩
          · simp [headV] at g1
          · rw [hl] at g1 g2 g7
            have e1 : a = a' ∧ c = c2 := by
              simp only [headV, Value.slice.injEq, Option.some.injEq, Addr.mk.injEq, and_true, true_and] at g1
              exact ⟨by have := g1.1; unfold new at this; omega, g1.2⟩
            obtain ⟨rfl, rfl⟩ := e1
            rw [h6] at g6
            obtain rfl : cs = cs2 := by injection g6
            refine ⟨h.pos, hh.flen, .inr ⟨a, c, _, by rw [hl]; rfl, by omega, by rw [setN_length]; exact h3, h4, h5, hset_same _ _ _, ?_⟩⟩
            rw [hl, ← g7]
            apply List.ext_getElem?
            intro q
            rw [List.getElem?_take, List.getElem?_take]
            split
            · rw [setN_get _ _ _ _ (by omega), if_neg (by omega)]
            · rfl
    rcases ht with ⟨rfl, rfl⟩ | rfl | ⟨hjl, A', rfl⟩
    · have := key (some ⟨new a, 0, none⟩) c (by rw [Nat.zero_mul])
      rw [Nat.sub_zero] at this
      exact this
    · exact key _ _ (by simp [Addr.add_lit])
    · refine ⟨A', 0, 0, rfl, htk, .inl ⟨rfl, hk H (fun _ _ => rfl) hh⟩⟩
theorem reps_flat {z : List Value} {x : α} (hz : f x = z) : ∀ m, reps m z = (List.replicate m x).flatMap f
  | 0 => rfl
  | m + 1 => by rw [reps, reps_flat hz m, List.replicate_succ, List.flatMap_cons, hz]
/-- A row that was made. -/
theorem OwR.made {z : List Value} {x : α} (hz : f x = z) (hp : 0 < sz) (hzl : z.length = sz) {j m : Nat} (hj : j < n) (hH : H j = .cells (reps m z) T sz) : OwR C H n (· = j) T sz f (.slice (some ⟨new j, 0, none⟩) m m) (List.replicate m x) := by
  refine OwR.lit hp (fun y hy => ?_) hj hH (reps_flat hz m) (by simp)
  rw [List.eq_of_mem_replicate hy, hz, hzl]
end
/-! ### Lists; names -/
/-- The index of the first element that has p, or -1. -/
def fidx {α : Type} (p : α → Bool) : List α → Int
  | [] => -1
  | x :: r => if p x then 0 else if fidx p r < 0 then -1 else fidx p r + 1
theorem fidx_ge {α : Type} (p : α → Bool) : ∀ l, -1 ≤ fidx p l
  | [] => by simp [fidx]
  | x :: r => by
    have := fidx_ge p r
    simp only [fidx]
    split <;> (try split) <;> omega
theorem fidx_found {α : Type} [Inhabited α] {p : α → Bool} {xs : List α} {j : Nat} (h : j < xs.length) (hp : p (at_ xs (j : Int)) = true) (hq : ∀ q, q < j → p (at_ xs (q : Int)) = false) : fidx p xs = j := by
  induction xs generalizing j with
  | nil => simp at h
  | cons x r ih =>
    cases j with
    | zero =>
      have : at_ (x :: r) ((0 : Nat) : Int) = x := by simp [at_]
      rw [this] at hp
      simp [fidx, hp]
    | succ j =>
      have h0 := hq 0 (by omega)
      have e0 : at_ (x :: r) ((0 : Nat) : Int) = x := by simp [at_]
      rw [e0] at h0
      have es : ∀ q : Nat, at_ (x :: r) ((q + 1 : Nat) : Int) = at_ r (q : Int) := fun q => by simp [at_]
      rw [es] at hp
      have := ih (j := j) (by simpa using h) hp (fun q hq2 => by rw [← es]; exact hq (q + 1) (by omega))
      simp only [fidx, h0, this]
      simp only [Bool.false_eq_true, if_false]
      rw [if_neg (by omega)]
      omega
theorem fidx_none {α : Type} [Inhabited α] {p : α → Bool} {xs : List α} (hq : ∀ q, q < xs.length → p (at_ xs (q : Int)) = false) : fidx p xs = -1 := by
  induction xs with
  | nil => rfl
  | cons x r ih =>
    have h0 := hq 0 (by simp)
    have e0 : at_ (x :: r) ((0 : Nat) : Int) = x := by simp [at_]
    rw [e0] at h0
    have es : ∀ q : Nat, at_ (x :: r) ((q + 1 : Nat) : Int) = at_ r (q : Int) := fun q => by simp [at_]
    have := ih (fun q h => by rw [← es]; exact hq (q + 1) (by simpa using h))
    simp [fidx, h0, this]
theorem fidx_any {α : Type} (p : α → Bool) (l : List α) : decide (0 ≤ fidx p l) = l.any p := by
  induction l with
  | nil => rfl
  | cons x r ih =>
    have h := fidx_ge p r
    rw [List.any_cons, ← ih, fidx]
    by_cases h1 : p x
    · simp [h1]
    · simp only [h1]
      by_cases h2 : fidx p r < 0
      · simp [h2]
      · simp [h2]; omega
theorem fidx_spec {α : Type} [Inhabited α] {p : α → Bool} : ∀ {xs : List α} {j : Nat}, fidx p xs = (j : Int) → j < xs.length ∧ p (at_ xs (j : Int)) = true ∧ ∀ q, q < j → p (at_ xs (q : Int)) = false
  | [], j, h => by simp [fidx] at h
  | x :: r, j, h => by
    have e0 : at_ (x :: r) ((0 : Nat) : Int) = x := by simp [at_]
    have es : ∀ q : Nat, at_ (x :: r) ((q + 1 : Nat) : Int) = at_ r (q : Int) := fun q => by simp [at_]
    simp only [fidx] at h
    split at h
    · rename_i hp
      obtain rfl : j = 0 := by omega
      exact ⟨by simp, by rw [e0]; exact hp, fun q hq => by omega⟩
    · rename_i hp
      split at h
      · omega
      · have hge := fidx_ge p r
        obtain ⟨i, rfl⟩ : ∃ i, j = i + 1 := ⟨j - 1, by omega⟩
        obtain ⟨h1, h2, h3⟩ := fidx_spec (p := p) (xs := r) (j := i) (by omega)
        refine ⟨by simp; omega, by rw [es]; exact h2, fun q hq => ?_⟩
        cases q with
        | zero => rw [e0]; simpa using hp
        | succ q => rw [es]; exact h3 q (by omega)
theorem not_all {α : Type} (l : List α) (p : α → Bool) : (!l.any fun x => !p x) = l.all p := by
  induction l with
  | nil => rfl
  | cons x r ih => simp only [List.any_cons, List.all_cons, Bool.not_or, Bool.not_not, ih]
section
variable {s : ByteArray}
def lowB (c : Int) : Bool := decide (97 ≤ c) && decide (c ≤ 122)
def digB (c : Int) : Bool := decide (48 ≤ c) && decide (c ≤ 57)
def okc (c : Int) : Bool := lowB c || digB c || decide (c = 95)
def nameB (s : ByteArray) : Bool := decide (1 ≤ s.size ∧ s.size ≤ 24 ∧ lowB (bt s 0) = true ∧ ∀ i : Nat, i < s.size → okc (bt s i) = true)
theorem beq_eq_decide' (a b : Int) : (a == b) = decide (a = b) := by rw [Bool.eq_iff_iff]; simp
theorem nameB_run {r : Nat} (h1 : 1 ≤ s.size) (h2 : s.size ≤ 24) (h3 : lowB (bt s 0) = true) (hr : r ≤ s.size) (ha : ∀ q : Nat, q < r → okc (bt s q) = true) (hb : r < s.size → okc (bt s r) = false) : nameB s = decide ((r : Int) = s.size) := by
  unfold nameB
  by_cases h : r = s.size
  · have e1 : (r : Int) = s.size := by omega
    have e2 : 1 ≤ s.size ∧ s.size ≤ 24 ∧ lowB (bt s 0) = true ∧ ∀ i : Nat, i < s.size → okc (bt s i) = true := ⟨h1, h2, h3, fun i hi => ha i (by omega)⟩
    exact (decide_eq_true e2).trans (decide_eq_true e1).symm
  · have e1 : ¬ (r : Int) = s.size := by omega
    have e2 : ¬ (1 ≤ s.size ∧ s.size ≤ 24 ∧ lowB (bt s 0) = true ∧ ∀ i : Nat, i < s.size → okc (bt s i) = true) := fun hc => by have := hb (by omega); rw [hc.2.2.2 r (by omega)] at this; cases this
    exact (decide_eq_false e2).trans (decide_eq_false e1).symm
theorem nameB_no (h : 1 ≤ s.size → s.size ≤ 24 → lowB (bt s 0) = true → False) : nameB s = false := decide_eq_false (fun hc => h hc.1 hc.2.1 hc.2.2.1)
theorem nameB_bad {j : Nat} (h : j < s.size) (hb : okc (bt s j) = false) : nameB s = false := decide_eq_false (fun hc => by have := hc.2.2.2 j h; rw [hb] at this; cases this)
end
/-- What is left of a list in which the elements up to j were looked at. -/
theorem filter_take {α : Type} [Inhabited α] {p : α → Bool} {xs : List α} {j : Nat} (h : j < xs.length) : (xs.take (j + 1)).filter p = (xs.take j).filter p ++ if p (at_ xs (j : Int)) then [at_ xs (j : Int)] else [] := by
  rw [take_next h, List.filter_append, List.filter_cons, List.filter_nil]
theorem filter_ge {α : Type} {p : α → Bool} {xs : List α} (j : Nat) : ((xs.take j).filter p).length ≤ j := by
  have := List.length_filter_le p (xs.take j)
  have h2 : (xs.take j).length ≤ j := by simp; omega
  omega
end Go.Aw
