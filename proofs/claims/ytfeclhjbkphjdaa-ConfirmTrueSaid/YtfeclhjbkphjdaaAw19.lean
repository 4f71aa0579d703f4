/-
  The order of texts; lists that are put in order; no program.
-/
import Derived.Test.YtfeclhjbkphjdaaAw17
import Derived.Lib.Bytealg
namespace Go.Aw
theorem bl_trans : ∀ {x y z : List UInt8}, Op.bytesLess x y = true → Op.bytesLess y z = true → Op.bytesLess x z = true
  | _, [], _, h, _ => by cases ‹List UInt8› <;> simp [Op.bytesLess] at h
  | _, _ :: _, [], _, h => by simp [Op.bytesLess] at h
  | [], _ :: _, _ :: _, _, _ => by simp [Op.bytesLess]
  | a :: x, b :: y, c :: z, h, h2 => by
    simp only [Op.bytesLess, Bool.or_eq_true, decide_eq_true_eq, Bool.and_eq_true, beq_iff_eq] at h h2 ⊢
    rcases h with h | ⟨rfl, h⟩
    · rcases h2 with h2 | ⟨rfl, h2⟩
      · left; exact UInt8.lt_trans h h2
      · left; exact h
    · rcases h2 with h2 | ⟨rfl, h2⟩
      · left; exact h2
      · right; exact ⟨rfl, bl_trans h h2⟩
theorem bl_irr : ∀ x : List UInt8, Op.bytesLess x x = false
  | [] => rfl
  | a :: x => by simp [Op.bytesLess, bl_irr x]
theorem u8_tri (a b : UInt8) : a < b ∨ a = b ∨ b < a := by
  rcases Nat.lt_trichotomy a.toNat b.toNat with h | h | h
  · exact .inl (UInt8.lt_iff_toNat_lt.2 h)
  · exact .inr (.inl (UInt8.toNat_inj.1 h))
  · exact .inr (.inr (UInt8.lt_iff_toNat_lt.2 h))
theorem bl_tot : ∀ {x y : List UInt8}, x ≠ y → Op.bytesLess x y = true ∨ Op.bytesLess y x = true
  | [], [], h => absurd rfl h
  | [], _ :: _, _ => by simp [Op.bytesLess]
  | _ :: _, [], _ => by simp [Op.bytesLess]
  | a :: x, b :: y, h => by
    simp only [Op.bytesLess, Bool.or_eq_true, decide_eq_true_eq, Bool.and_eq_true, beq_iff_eq]
    rcases u8_tri a b with h1 | rfl | h1
    · exact .inl (.inl h1)
    · rcases bl_tot (x := x) (y := y) (fun e => h (by rw [e])) with h2 | h2
      · exact .inl (.inr ⟨rfl, h2⟩)
      · exact .inr (.inr ⟨rfl, h2⟩)
    · exact .inr (.inl h1)
/-- x < y, of texts. -/
def lsB (x y : ByteArray) : Bool := Op.bytesLess x.toList y.toList
theorem lsB_trans {x y z : ByteArray} (h : lsB x y = true) (h2 : lsB y z = true) : lsB x z = true := bl_trans h h2
theorem lsB_irr (x : ByteArray) : lsB x x = false := bl_irr _
theorem toList_inj {x y : ByteArray} (h : x.toList = y.toList) : x = y := by
  rw [ByteArray.toList_eq, ByteArray.toList_eq] at h
  obtain ⟨⟨a⟩⟩ := x
  obtain ⟨⟨b⟩⟩ := y
  simp only at h
  rw [h]
theorem lsB_tot {x y : ByteArray} (h : x ≠ y) : lsB x y = true ∨ lsB y x = true := bl_tot fun e => h (toList_inj e)
theorem lsB_asym {x y : ByteArray} (h : lsB x y = true) : lsB y x = false := by
  cases h2 : lsB y x with
  | false => rfl
  | true => have := lsB_trans h h2; rw [lsB_irr] at this; cases this
theorem cb_spec : ∀ x y : List UInt8, (Lib.compareBytes x y < 0 ↔ Op.bytesLess x y = true) ∧ (Lib.compareBytes x y = 0 ↔ x = y)
  | [], [] => by simp [Lib.compareBytes, Op.bytesLess]
  | [], _ :: _ => by simp [Lib.compareBytes, Op.bytesLess]
  | _ :: _, [] => by simp [Lib.compareBytes, Op.bytesLess]
  | a :: x, b :: y => by
    obtain ⟨h1, h2⟩ := cb_spec x y
    simp only [Lib.compareBytes, Op.bytesLess, Bool.or_eq_true, decide_eq_true_eq, Bool.and_eq_true, beq_iff_eq, List.cons.injEq]
    by_cases c : a < b
    · have : a ≠ b := fun e => by rw [e] at c; exact absurd c (UInt8.lt_irrefl b)
      simp [c, this]
    · by_cases d : b < a
      · have : a ≠ b := fun e => by rw [e] at d; exact absurd d (UInt8.lt_irrefl b)
        simp [c, d, this]
      · have : a = b := by exact (u8_tri a b).elim (fun h => absurd h c) (fun h => h.elim id (fun h => absurd h d))
        subst this
        simp [c, h1, h2]
theorem cmp_lsB (x y : ByteArray) : Lib.compareBytes x.data.toList y.data.toList < 0 ↔ lsB x y = true := by
  unfold lsB; rw [ByteArray.toList_eq, ByteArray.toList_eq]; exact (cb_spec _ _).1
theorem cmp_eq (x y : ByteArray) : Lib.compareBytes x.data.toList y.data.toList = 0 ↔ x = y := by
  rw [(cb_spec _ _).2]
  exact ⟨fun h => toList_inj (by rw [ByteArray.toList_eq, ByteArray.toList_eq]; exact h), fun h => by rw [h]⟩
/-- Two lists of the same elements in the same order. -/
theorem perm_sorted {α : Type} {R : α → α → Prop} (ha : ∀ x y, R x y → ¬ R y x) : ∀ {xs ys : List α}, xs.Perm ys → xs.Pairwise R → ys.Pairwise R → xs = ys
  | [], ys, h, _, _ => by rw [List.nil_perm.1 h]
  | x :: xs, [], h, _, _ => by have := h.length_eq; simp at this
  | x :: xs, y :: ys, h, hx, hy => by
    rw [List.pairwise_cons] at hx hy
    have e : x = y := by
      have h1 : x ∈ y :: ys := h.subset (List.mem_cons_self ..)
      have h2 : y ∈ x :: xs := h.symm.subset (List.mem_cons_self ..)
      rcases List.mem_cons.1 h1 with e | h1
      · exact e
      rcases List.mem_cons.1 h2 with e | h2
      · exact e.symm
      exact absurd (hx.1 y h2) (ha _ _ (hy.1 x h1))
    subst e
    rw [perm_sorted ha (List.Perm.cons_inv h) hx.2 hy.2]
/-- x is put in front of the first element that has not p. -/
def insW {α : Type} (p : α → Bool) (x : α) (xs : List α) : List α := xs.takeWhile p ++ x :: xs.dropWhile p
theorem insW_perm {α : Type} {p : α → Bool} {x : α} {xs : List α} : (insW p x xs).Perm (x :: xs) := by
  unfold insW
  refine List.perm_middle.trans ?_
  rw [List.takeWhile_append_dropWhile]
theorem takeWhile_len {α : Type} {p : α → Bool} {xs : List α} : (xs.takeWhile p).length ≤ xs.length := by
  induction xs with
  | nil => simp
  | cons x r ih => rw [List.takeWhile_cons]; split <;> simp <;> omega
theorem take_while {α : Type} [Inhabited α] {p : α → Bool} : ∀ {xs : List α} {a : Nat}, a ≤ xs.length → (∀ q, q < a → p (at_ xs (q : Int)) = true) → (a < xs.length → p (at_ xs (a : Int)) = false) → xs.take a = xs.takeWhile p ∧ xs.drop a = xs.dropWhile p
  | [], a, h, _, _ => by simp
  | x :: r, 0, h, _, h2 => by
    have := h2 (by simp)
    have e0 : at_ (x :: r) ((0 : Nat) : Int) = x := by simp [at_]
    rw [e0] at this
    simp [this]
  | x :: r, a + 1, h, h1, h2 => by
    have e0 : at_ (x :: r) ((0 : Nat) : Int) = x := by simp [at_]
    have es : ∀ q : Nat, at_ (x :: r) ((q + 1 : Nat) : Int) = at_ r (q : Int) := fun q => by simp [at_]
    have h0 := h1 0 (by omega)
    rw [e0] at h0
    obtain ⟨g1, g2⟩ := take_while (xs := r) (a := a) (by simpa using h) (fun q hq => by rw [← es]; exact h1 (q + 1) (by omega)) (fun hq => by rw [← es]; exact h2 (by simp; omega))
    simp [h0, g1, g2]
theorem insW_sorted {α : Type} {R : α → α → Bool} (ht : ∀ x y z, R x y = true → R y z = true → R x z = true) {x : α} : ∀ {xs : List α}, xs.Pairwise (fun a b => R a b = true) → (∀ y ∈ xs, R y x = true ∨ R x y = true) → (insW (fun k => R k x) x xs).Pairwise (fun a b => R a b = true)
  | [], _, _ => by simp [insW]
  | y :: r, h, hx => by
    rw [List.pairwise_cons] at h
    have ih := insW_sorted (x := x) ht h.2 (fun z hz => hx z (List.mem_cons_of_mem _ hz))
    unfold insW
    cases hy : R y x with
    | true =>
      rw [List.takeWhile_cons_of_pos (by simpa using hy), List.dropWhile_cons_of_pos (by simpa using hy)]
      rw [List.cons_append, List.pairwise_cons]
      refine ⟨fun z hz => ?_, ih⟩
      have hz' : z ∈ x :: r := (insW_perm (p := fun k => R k x)).subset hz
      rcases List.mem_cons.1 hz' with rfl | hz'
      · exact hy
      · exact h.1 z hz'
    | false =>
      rw [List.takeWhile_cons_of_neg (by simpa using hy), List.dropWhile_cons_of_neg (by simpa using hy)]
      have hxy : R x y = true := by
        rcases hx y (List.mem_cons_self ..) with h1 | h1
        · rw [hy] at h1; cases h1
        · exact h1
      rw [List.nil_append, List.pairwise_cons]
      refine ⟨fun z hz => ?_, List.pairwise_cons.2 h⟩
      rcases List.mem_cons.1 hz with rfl | hz
      · exact hxy
      · exact ht _ _ _ hxy (h.1 z hz)
/-- A call that does nothing, whatever it is given. -/
theorem ACall.unit {C : Ctx} {f : FuncId} {args : List Value} {r : Value} {n : Nat} {H : Heap} {K : Value → Nat → Heap → Prop}
    (h : ∀ (J : Nat → Nat × Nat) w, Calls C.P f (args.map (ren J)).toArray w fun e w' => e = .returned r ∧ w' = w) (hr : flatZ r = true ∨ r = .tuple #[]) (hk : K r n H) : ACall C f args K n H := by
  intro J w hs hu
  refine (h J w).mono ?_
  rintro e w' ⟨rfl, rfl⟩
  have hren : ∀ J', ren J' r = r := fun J' => by
    rcases hr with hr | rfl
    · exact flatZ_ren hr _
    · simp
  exact ⟨n, J, r, H, by rw [hren], hs, Nat.le_refl _, fun _ _ => rfl, fun J1 J2 _ => by rw [hren, hren], hk⟩
/-- A call whose answer stands in a contract that leaves the world alone. -/
theorem ACall.pure {C : Ctx} {f : FuncId} {args : List Value} {r : Value} {n : Nat} {H : Heap} {K : Value → Nat → Heap → Prop} (hfl : ∀ v ∈ args, flat v = true) (hr : flat r = true)
    (h : ∀ w, Calls C.P f args.toArray w fun e w' => e = .returned r ∧ w' = w) (hk : K r n H) : ACall C f args K n H := by
  intro J w hs hu
  have e : (args.map (ren J)).toArray = args.toArray := by
    rw [ren_flats hfl]
  rw [e]
  refine (h w).mono ?_
  rintro e w' ⟨rfl, rfl⟩
  exact ⟨n, J, r, H, by rw [ren, flat_ren hr], hs, Nat.le_refl _, fun _ _ => rfl, fun J1 J2 _ => by rw [ren, ren, flat_ren hr, flat_ren hr], hk⟩
end Go.Aw
