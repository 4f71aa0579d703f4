/-
  Chapter 34: laws of the pieces; no program.
-/
import Derived.Test.YtlcngkigfcacmaaS34i
namespace Go.Aw.S34
open Go.RowKit Go.Proofs Go.Aw.Tab
set_option linter.unusedSimpArgs false
set_option linter.unusedVariables false
set_option maxRecDepth 10000
set_option maxHeartbeats 1000000
variable {l : List Hold} {t fr to : Int}
theorem rnx_char (h : chk l = 0) (a : Int) : (rnx l a < 0 ∧ ∀ e ∈ endsL l, a < e → gov l e = gov l a) ∨
    (0 ≤ rnx l a ∧ rnx l a ∈ endsL l ∧ a < rnx l a ∧ gov l (rnx l a) ≠ gov l a ∧ ∀ e ∈ endsL l, a < e → gov l e ≠ gov l a → rnx l a ≤ e) := by
  have hp := ends_pos h
  have hA : ∀ x, atC (chkR l) l x = gov l x := fun x => by rw [chk_eq, h]; rfl
  obtain ⟨i1, i2, _⟩ := rnxF_spec (l := l) (t := a) (c := chkR l) (endsL l) (-1) hp
  change (rnx l a = -1 ∨ (rnx l a ∈ endsL l ∧ a < rnx l a ∧ _ ≠ _)) at i1
  change ∀ e ∈ endsL l, a < e → _ → 0 ≤ rnx l a ∧ rnx l a ≤ e at i2
  simp only [hA] at i1 i2
  rcases i1 with i1 | ⟨i1, i3, i4⟩
  · left
    refine ⟨by omega, fun e he h1 => Decidable.byContradiction fun h2 => ?_⟩
    have := i2 e he h1 h2; omega
  · right
    exact ⟨hp _ i1, i1, i3, i4, fun e he h1 h2 => (i2 e he h1 h2).2⟩
/-- Where the piece that begins at a ends. -/
def nx2 (l : List Hold) (to a : Int) : Int := if rnx l a < 0 ∨ to < rnx l a then to else rnx l a
def rpF (l : List Hold) (to : Int) : Nat → Int → List Pc
  | 0, _ => []
  | k + 1, a => if a < to then ⟨a, nx2 l to a, gov l a⟩ :: rpF l to k (nx2 l to a) else []
/-- So many pieces are enough. -/
def Cmp (l : List Hold) (to : Int) : Nat → Int → Prop
  | 0, a => ¬ a < to
  | k + 1, a => a < to → Cmp l to k (nx2 l to a)
theorem rpF_end {k : Nat} {a : Int} (h : ¬ a < to) : rpF l to k a = [] := by
  cases k <;> simp [rpF, h]
theorem Cmp_end {k : Nat} {a : Int} (h : ¬ a < to) : Cmp l to k a := by
  cases k
  · exact h
  · intro e; exact absurd e h
theorem rpF_len : ∀ (k : Nat) (a : Int), (rpF l to k a).length ≤ k
  | 0, _ => by simp [rpF]
  | k + 1, a => by
    rw [rpF]; split
    · have := rpF_len k (nx2 l to a); simp; omega
    · simp
theorem pc_rp (h : chk l = 0) : ∀ (es pre : List Int) (a : Int), pre ++ es = sortI (endsL l) → fr ≤ a → a < to → (a = fr ∨ ∀ e ∈ es, a ≤ e) → (∀ x ∈ pre, x ≤ a ∨ to ≤ x ∨ gov l x = gov l a) →
    ∀ k, es.length + 1 ≤ k → pcF l fr to a (gov l a) es = rpF l to k a ∧ Cmp l to k a := by
  intro es
  induction es with
  | nil =>
    intro pre a hpre h1 h2 h3 h4 k hk
    obtain ⟨k, rfl⟩ : ∃ m, k = m + 1 := ⟨k - 1, by simp at hk; omega⟩
    rw [List.append_nil] at hpre
    have hn : nx2 l to a = to := by
      unfold nx2
      rcases rnx_char h a with ⟨c1, _⟩ | ⟨c1, c2, c3, c4, _⟩
      · rw [if_pos (.inl c1)]
      · have hm : rnx l a ∈ pre := by rw [hpre]; exact mem_sortI.2 c2
        rcases h4 _ hm with e | e | e
        · omega
        · split <;> omega
        · exact absurd e c4
    rw [pcF, rpF, if_pos h2, hn, rpF_end (by omega)]
    exact ⟨rfl, fun _ => by rw [hn]; exact Cmp_end (by omega)⟩
  | cons e r ih =>
    intro pre a hpre h1 h2 h3 h4 k hk
    obtain ⟨k, rfl⟩ : ∃ m, k = m + 1 := ⟨k - 1, by simp at hk; omega⟩
    have hk' : r.length + 1 ≤ k := by simp at hk; omega
    have hs := sortI_sorted (endsL l)
    rw [← hpre, List.pairwise_append, List.pairwise_cons] at hs
    obtain ⟨_, ⟨s1, _⟩, s3⟩ := hs
    have hpre' : (pre ++ [e]) ++ r = sortI (endsL l) := by rw [List.append_assoc]; exact hpre
    have hmem : ∀ x, x ∈ endsL l → x ∈ pre ∨ x = e ∨ x ∈ r := fun x hx => by
      have : x ∈ pre ++ e :: r := by rw [hpre]; exact mem_sortI.2 hx
      simpa using this
    have he : e ∈ endsL l := mem_sortI.1 (by rw [← hpre]; simp)
    rw [pcF]
    by_cases hc : fr < e ∧ e < to ∧ gov l e ≠ gov l a
    · rw [if_pos hc]
      have hle : a ≤ e := by
        rcases h3 with h3 | h3
        · omega
        · exact h3 e (List.mem_cons_self ..)
      have hne : a ≠ e := fun x => hc.2.2 (by rw [x])
      have hr : rnx l a = e := by
        rcases rnx_char h a with ⟨c1, c2⟩ | ⟨c1, c2, c3, c4, c5⟩
        · exact absurd (c2 e he (by omega)) hc.2.2
        · have c6 := c5 e he (by omega) hc.2.2
          rcases hmem _ c2 with m | m | m
          · rcases h4 _ m with x | x | x
            · omega
            · omega
            · exact absurd x c4
          · exact m
          · have := s1 _ m; omega
      have h0 := ends_pos h e he
      have hn : nx2 l to a = e := by unfold nx2; rw [hr, if_neg (by omega)]
      obtain ⟨i1, i2⟩ := ih (pre ++ [e]) e hpre' (by omega) hc.2.1 (.inr s1) (fun x hx => by
        rcases List.mem_append.1 hx with hx | hx
        · exact .inl (s3 x hx e (List.mem_cons_self ..))
        · simp at hx; left; omega) k hk'
      rw [rpF, if_pos h2, hn, i1]
      exact ⟨rfl, fun _ => by rw [hn]; exact i2⟩
    · rw [if_neg hc]
      exact ih (pre ++ [e]) a hpre' h1 h2 (h3.imp_right fun h3 x hx => h3 x (List.mem_cons_of_mem _ hx)) (fun x hx => by
        rcases List.mem_append.1 hx with hx | hx
        · exact h4 x hx
        · simp at hx; subst hx
          by_cases q1 : fr < x
          · by_cases q2 : x < to
            · right; right; exact Decidable.byContradiction fun q3 => hc ⟨q1, q2, q3⟩
            · right; left; omega
          · left; omega) (k + 1) (by omega)
theorem pcP_rp (h : chk l = 0) (h1 : fr < to) {k : Nat} (hk : 2 * l.length + 1 ≤ k) : pcP l fr to = rpF l to k fr ∧ Cmp l to k fr := by
  have := pc_rp h (fr := fr) (to := to) (sortI (endsL l)) [] fr rfl (by omega) h1 (.inl rfl) (by simp) k (by rw [sortI_len, endsL_len]; exact hk)
  unfold pcP
  rw [if_pos h, if_pos h1]
  exact this
end Go.Aw.S34
