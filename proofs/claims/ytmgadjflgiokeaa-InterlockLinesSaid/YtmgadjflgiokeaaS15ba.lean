/-
  Chapter 15: Load, token by token.
-/
import Derived.Test.YtmgadjflgiokeaaS15l
import Derived.Test.YtmgadjflgiokeaaAw15
namespace Go.Aw.S15
open Go.RowKit Go.Proofs Go.Aw.Tab
set_option linter.unusedSimpArgs false
set_option linter.unusedVariables false
set_option maxRecDepth 10000
set_option maxHeartbeats 1000000
variable {ts : List Tok} {lat : Int} {hd : Bool} {kn : Nat} {r : Rd} {s : ByteArray} {k e j : Int} {i : Nat}
def colAt (ts : List Tok) (i : Int) : Int := if 0 < ts.length then (at_ ts (mnI i (ts.length - 1))).pos else 1
def errL (ts : List Tok) (lat e i : Int) : LR := ⟨⟨#[]⟩, [], 0, e, lat, colAt ts i⟩
def finL (ts : List Tok) (lat : Int) (hd : Bool) (kn : Nat) (nm : ByteArray) (dd : Int) (ps : List ByteArray) : LR :=
  if ps.length < 2 then errL ts lat 1 (ts.length - 1) else if hd = true ∨ 0 < kn then errL ts lat 2 (ts.length - 1) else ⟨nm, ps, dd, 0, 0, 0⟩
def e0 : ByteArray := ⟨#[]⟩
def wantS (i : Nat) : ByteArray := if i = 0 then ⟨#[103, 114, 111, 117, 112]⟩ else if i = 2 then ⟨#[100, 101, 97, 100]⟩ else if i = 4 then ⟨#[111, 102]⟩ else e0
def rl (ts : List Tok) (lat : Int) (hd : Bool) (kn : Nat) : Nat → Nat → ByteArray → Int → List ByteArray → LR
  | 0, _, nm, dd, ps => finL ts lat hd kn nm dd ps
  | k + 1, i, nm, dd, ps =>
    if ts.length ≤ i ∧ 6 ≤ i then finL ts lat hd kn nm dd ps
    else if ts.length ≤ i then errL ts lat 2 i
    else if i = 3 then
      if (at_ ts (i : Int)).kind ≠ 2 then errL ts lat 2 i else if (at_ ts (i : Int)).num < 0 ∨ 3600000 < (at_ ts (i : Int)).num ∨ (at_ ts (i : Int)).num.tmod 1000 ≠ 0 then errL ts lat 6 i else rl ts lat hd kn k (i + 1) nm ((at_ ts (i : Int)).num.tdiv 1000) ps
    else if (at_ ts (i : Int)).kind ≠ 1 ∨ wantS i ≠ e0 ∧ (at_ ts (i : Int)).text ≠ wantS i then errL ts lat 2 i
    else if wantS i ≠ e0 then rl ts lat hd kn k (i + 1) nm dd ps
    else if nameB (at_ ts (i : Int)).text = false then errL ts lat 4 i
    else if i = 1 then rl ts lat hd kn k (i + 1) (at_ ts (i : Int)).text dd ps
    else if 16 ≤ ps.length then errL ts lat 7 i
    else if (ps.any fun x => decide (x = (at_ ts (i : Int)).text)) = true then errL ts lat 5 i
    else rl ts lat hd kn k (i + 1) nm dd (ps ++ [(at_ ts (i : Int)).text])
def R (i : Int) : Rd := ⟨i, 0, 0, 0⟩
theorem failP_R : failP ts lat (R k) e j = ⟨k, e, lat, colAt ts j⟩ := by unfold failP R colAt; simp
theorem take_yes (h : takes ts (R j) k s = true) : takeP ts lat (R j) k s = (at_ ts j, R (j + 1)) := by
  unfold takeP; rw [if_pos (by rfl), if_pos h]; rfl
theorem take_no (h : ¬ takes ts (R j) k s = true) : takeP ts lat (R j) k s = (noTok, ⟨j, 2, lat, colAt ts j⟩) := by
  unfold takeP; rw [if_pos (by rfl), if_neg h]
  have : (R j).at' = j := rfl
  rw [this, failP_R]
theorem take_err (h : r.code ≠ 0) : takeP ts lat r k s = (noTok, r) := by unfold takeP; rw [if_neg h]
theorem bad_err {b : Bool} (h : r.code ≠ 0) : bad b ts lat r e j = r := by unfold bad; rw [if_neg (fun hc => h hc.1)]
theorem bad_no : bad false ts lat r e j = r := by unfold bad; simp
theorem bad_R : bad true ts lat (R k) e j = ⟨k, e, lat, colAt ts j⟩ := by unfold bad; rw [if_pos ⟨rfl, rfl⟩, failP_R]
theorem dead7 (h : (h7P ts lat).code ≠ 0) : h10P ts lat hd kn = h7P ts lat := by
  have e1 : lpP ts lat = (h7P ts lat, []) := by unfold lpP; exact loopP_stop (by simp [ptOk, h])
  unfold h10P h9P; rw [e1, bad_err h, bad_err h]
theorem dead6 (h : (h6P ts lat).code ≠ 0) : h10P ts lat hd kn = h6P ts lat := by
  have e1 : h7P ts lat = h6P ts lat := by unfold h7P; rw [take_err h]
  rw [dead7 (by rw [e1]; exact h), e1]
theorem dead5 (h : (h5P ts lat).2.code ≠ 0) : h10P ts lat hd kn = (h5P ts lat).2 := by
  have e1 : h6P ts lat = (h5P ts lat).2 := by unfold h6P; rw [bad_err h]
  rw [dead6 (by rw [e1]; exact h), e1]
theorem dead4 (h : (h4P ts lat).code ≠ 0) : h10P ts lat hd kn = h4P ts lat := by
  have e1 : h5P ts lat = (noTok, h4P ts lat) := by unfold h5P; rw [take_err h]
  rw [dead5 (by rw [e1]; exact h), e1]
theorem dead3 (h : (h3P ts lat).code ≠ 0) : h10P ts lat hd kn = h3P ts lat := by
  have e1 : h4P ts lat = h3P ts lat := by unfold h4P; rw [take_err h]
  rw [dead4 (by rw [e1]; exact h), e1]
theorem dead2 (h : (h2P ts lat).2.code ≠ 0) : h10P ts lat hd kn = (h2P ts lat).2 := by
  have e1 : h3P ts lat = (h2P ts lat).2 := by unfold h3P; rw [bad_err h]
  rw [dead3 (by rw [e1]; exact h), e1]
theorem dead1 (h : (h1P ts lat).code ≠ 0) : h10P ts lat hd kn = h1P ts lat := by
  have e1 : h2P ts lat = (noTok, h1P ts lat) := by unfold h2P; rw [take_err h]
  rw [dead2 (by rw [e1]; exact h), e1]
theorem load_err {z c : Int} (h : h10P ts lat hd kn = ⟨z, e, lat, c⟩) (h0 : e ≠ 0) : loadP ts lat hd kn = ⟨⟨#[]⟩, [], 0, e, lat, c⟩ := by
  unfold loadP; rw [h, if_neg h0]
theorem takes_iff : takes ts (R j) k s = true ↔ j < ts.length ∧ (at_ ts j).kind = k ∧ (s = e0 ∨ (at_ ts j).text = s) := by
  unfold takes
  simp only [Bool.and_eq_true, Bool.or_eq_true, decide_eq_true_eq, and_assoc]
  exact Iff.rfl
theorem col_last {c : Int} (h : (ts.length : Int) ≤ c) : colAt ts c = colAt ts (ts.length - 1) := by
  unfold colAt
  unfold mnI
  split
  · by_cases h1 : (ts.length : Int) - 1 < c
    · rw [if_pos h1, if_neg (by omega)]
    · omega
  · rfl
/-- What follows the points. -/
def loopEnd (ts : List Tok) (lat : Int) (hd : Bool) (kn : Nat) (nm : ByteArray) (dd : Int) (x : Rd × List ByteArray) : LR :=
  let y := bad (hd || decide (0 < kn)) ts lat (bad (decide (x.2.length < 2)) ts lat x.1 1 (ts.length - 1)) 2 (ts.length - 1)
  if y.code = 0 then ⟨nm, x.2, dd, 0, 0, 0⟩ else ⟨⟨#[]⟩, [], 0, y.code, y.line, y.col⟩
theorem loopEnd_err {nm : ByteArray} {dd z c : Int} {ps : List ByteArray} (h : e ≠ 0) : loopEnd ts lat hd kn nm dd (⟨z, e, lat, c⟩, ps) = ⟨⟨#[]⟩, [], 0, e, lat, c⟩ := by
  unfold loopEnd
  simp only
  rw [bad_err (r := ⟨z, e, lat, c⟩) h, bad_err (r := ⟨z, e, lat, c⟩) h, if_neg h]
/-- The points. -/
theorem loop_rl {nm : ByteArray} {dd : Int} : ∀ (q m i : Nat) (ps : List ByteArray), 5 ≤ i → ts.length + 1 ≤ q + i → ts.length + 2 ≤ m + i → ps.length ≤ 16 → i ≤ ts.length →
    loopEnd ts lat hd kn nm dd (loopP ts lat q (decide (i = 5)) (R i) ps) = rl ts lat hd kn m i nm dd ps := by
  intro q
  induction q with
  | zero => intro m i ps h1 h2 h3 h4 h5; omega
  | succ q ih =>
    intro m i ps h1 h2 h3 h4 h5
    obtain ⟨m, rfl⟩ : ∃ m', m = m' + 1 := ⟨m - 1, by omega⟩
    have hw : wantS i = e0 := by unfold wantS; rw [if_neg (by omega), if_neg (by omega), if_neg (by omega)]
    rw [rl]
    by_cases hp : ptOk ts (R i) (decide (i = 5)) = true
    · have hp' : i = 5 ∨ i < ts.length := by simp [ptOk, R] at hp; exact hp
      rw [if_neg (by omega), loopP, if_pos hp]
      by_cases hl : ts.length ≤ i
      · rw [if_pos hl]
        have hno : ¬ takes ts (R i) 1 ⟨#[]⟩ = true := fun h => by have := (takes_iff.1 h).1; omega
        have hs : stepP ts lat (R i) ps = (⟨i, 2, lat, colAt ts i⟩, ps) := by unfold stepP; rw [take_no hno]; simp
        rw [hs, loopP_stop (by simp [ptOk]), loopEnd_err (by decide)]
        rfl
      · rw [if_neg hl, if_neg (by omega)]
        by_cases hk : (at_ ts (i : Int)).kind = 1
        · have hyes : takes ts (R i) 1 ⟨#[]⟩ = true := takes_iff.2 ⟨by omega, hk, .inl rfl⟩
          rw [if_neg (by rw [hw]; simp [hk]), if_neg (by simp [hw])]
          by_cases hn : nameB (at_ ts (i : Int)).text = true
          · rw [if_neg (by simp [hn]), if_neg (by omega)]
            by_cases h16 : ps.length = 16
            · rw [if_pos (by omega)]
              have hs : stepP ts lat (R i) ps = (⟨i + 1, 7, lat, colAt ts i⟩, ps) := by
                unfold stepP; rw [take_yes hyes]; simp only
                rw [if_pos (by rfl), if_pos hn, if_pos h16, failP_R]; simp [R]
              rw [hs, loopP_stop (by simp [ptOk]), loopEnd_err (by decide)]
              rfl
            · rw [if_neg (by omega)]
              by_cases ha : (ps.any fun x => decide (x = (at_ ts (i : Int)).text)) = true
              · rw [if_pos ha]
                have hs : stepP ts lat (R i) ps = (⟨i + 1, 5, lat, colAt ts i⟩, ps) := by
                  unfold stepP; rw [take_yes hyes]; simp only
                  rw [if_pos (by rfl), if_pos hn, if_neg h16, if_pos ha, failP_R]; simp [R]
                rw [hs, loopP_stop (by simp [ptOk]), loopEnd_err (by decide)]
                rfl
              · rw [if_neg ha]
                have hs : stepP ts lat (R i) ps = (R ((i + 1 : Nat) : Int), ps ++ [(at_ ts (i : Int)).text]) := by
                  unfold stepP; rw [take_yes hyes]; simp only
                  rw [if_pos (by rfl), if_pos hn, if_neg h16, if_neg ha]; simp
                rw [hs]
                have hd5 : false = decide (i + 1 = 5) := by simp; omega
                simp only
                rw [hd5]
                exact ih m (i + 1) _ (by omega) (by omega) (by omega) (by simp; omega) (by omega)
          · rw [if_pos (by simpa using hn)]
            have hs : stepP ts lat (R i) ps = (⟨i + 1, 4, lat, colAt ts i⟩, ps) := by
              unfold stepP; rw [take_yes hyes]; simp only
              rw [if_pos (by rfl), if_neg hn, failP_R]; simp [R]
            rw [hs, loopP_stop (by simp [ptOk]), loopEnd_err (by decide)]
            rfl
        · rw [if_pos (.inl hk)]
          have hno : ¬ takes ts (R i) 1 ⟨#[]⟩ = true := fun h => hk (takes_iff.1 h).2.1
          have hs : stepP ts lat (R i) ps = (⟨i, 2, lat, colAt ts i⟩, ps) := by unfold stepP; rw [take_no hno]; simp
          rw [hs, loopP_stop (by simp [ptOk]), loopEnd_err (by decide)]
          rfl
    · have hp' : ¬ (i = 5 ∨ i < ts.length) := fun h => hp (by simp [ptOk, R]; exact h)
      rw [if_pos (by omega), loopP_stop (by simpa using hp)]
      unfold loopEnd
      simp only [finL]
      by_cases h2 : ps.length < 2
      · rw [if_pos h2, decide_eq_true h2, bad_R, bad_err (by simp)]; simp [errL]
      · rw [if_neg h2, decide_eq_false h2, bad_no]
        by_cases h6 : hd = true ∨ 0 < kn
        · rw [if_pos h6, show (hd || decide (0 < kn)) = true by simpa using h6, bad_R]; simp [errL]
        · rw [if_neg h6, show (hd || decide (0 < kn)) = false by simpa using h6, bad_no]; simp [R]
theorem rl_word {m : Nat} {nm : ByteArray} {dd : Int} {ps : List ByteArray} (hi : i = 0 ∨ i = 2 ∨ i = 4) : rl ts lat hd kn (m + 1) i nm dd ps = if takes ts (R i) 1 (wantS i) = true then rl ts lat hd kn m (i + 1) nm dd ps else errL ts lat 2 i := by
  have hw : wantS i ≠ e0 := by unfold wantS; rcases hi with rfl | rfl | rfl <;> decide
  have h3 : i ≠ 3 := by omega
  rw [rl, if_neg (by omega), if_neg h3]
  by_cases h : takes ts (R i) 1 (wantS i) = true
  · obtain ⟨h1, h2, h4⟩ := takes_iff.1 h
    rw [if_pos h, if_neg (by omega), if_neg, if_pos hw]
    rintro (h5 | ⟨_, h5⟩)
    · exact h5 h2
    · rcases h4 with h4 | h4
      · exact hw h4
      · exact h5 h4
  · rw [if_neg h]
    by_cases hl : ts.length ≤ i
    · rw [if_pos hl]
    · rw [if_neg hl, if_pos]
      by_cases hk : (at_ ts (i : Int)).kind = 1
      · exact .inr ⟨hw, fun h4 => h (takes_iff.2 ⟨by omega, hk, .inr h4⟩)⟩
      · exact .inl hk
theorem rl_name {m : Nat} {nm : ByteArray} {dd : Int} {ps : List ByteArray} : rl ts lat hd kn (m + 1) 1 nm dd ps =
    if takes ts (R 1) 1 ⟨#[]⟩ = true then (if nameB (at_ ts 1).text = true then rl ts lat hd kn m 2 (at_ ts 1).text dd ps else errL ts lat 4 1) else errL ts lat 2 1 := by
  have hw : wantS 1 = e0 := rfl
  rw [rl, if_neg (by omega), if_neg (show ¬ (1 : Nat) = 3 by omega), hw]
  by_cases h : takes ts (R 1) 1 ⟨#[]⟩ = true
  · obtain ⟨h1, h2, _⟩ := takes_iff.1 h
    rw [if_pos h, if_neg (by omega), if_neg (by simp [h2]), if_neg (by simp)]
    by_cases hn : nameB (at_ ts 1).text = true
    · rw [if_pos hn, if_neg (by simp [hn]), if_pos rfl]; rfl
    · rw [if_neg hn, if_pos (by simpa using hn)]; rfl
  · rw [if_neg h]
    by_cases hl : ts.length ≤ 1
    · rw [if_pos hl]; rfl
    · rw [if_neg hl, if_pos]
      · rfl
      · exact .inl fun hk => h (takes_iff.2 ⟨by omega, hk, .inl rfl⟩)
theorem numB_iff {x : Int} : numB x = false ↔ (x < 0 ∨ 3600000 < x ∨ x.tmod 1000 ≠ 0) := by
  have h1 := Int.tmod_add_mul_tdiv x 1000
  have h2 : x.tmod 1000 < 1000 := Int.tmod_lt_of_pos x (by omega)
  have h3 : 0 ≤ x → 0 ≤ x.tmod 1000 := fun h => Int.tmod_nonneg _ h
  simp only [numB, Bool.and_eq_false_iff, decide_eq_false_iff_not]
  constructor
  · intro h
    by_cases h4 : x.tmod 1000 = 0
    · omega
    · exact .inr (.inr h4)
  · intro h
    by_cases h4 : x.tmod 1000 = 0
    · omega
    · exact .inl h4
theorem rl_num {m : Nat} {nm : ByteArray} {dd : Int} {ps : List ByteArray} : rl ts lat hd kn (m + 1) 3 nm dd ps =
    if takes ts (R 3) 2 ⟨#[]⟩ = true then (if numB (at_ ts 3).num = true then rl ts lat hd kn m 4 nm ((at_ ts 3).num.tdiv 1000) ps else errL ts lat 6 3) else errL ts lat 2 3 := by
  rw [rl, if_neg (by omega), if_pos (show (3 : Nat) = 3 from rfl)]
  by_cases h : takes ts (R 3) 2 ⟨#[]⟩ = true
  · obtain ⟨h1, h2, _⟩ := takes_iff.1 h
    rw [if_pos h, if_neg (by omega), if_neg (by simpa using h2)]
    by_cases hn : numB (at_ ts 3).num = true
    · rw [if_pos hn, if_neg (fun hc => by have : numB (at_ ts 3).num = false := numB_iff.2 hc; rw [hn] at this; cases this)]; rfl
    · rw [if_neg hn, if_pos (numB_iff.1 (by simpa using hn))]; rfl
  · rw [if_neg h]
    by_cases hl : ts.length ≤ 3
    · rw [if_pos hl]; rfl
    · rw [if_neg hl, if_pos]
      · rfl
      · exact fun hk => h (takes_iff.2 ⟨by omega, hk, .inl rfl⟩)
theorem loadP_rl {q : Nat} (hq : ts.length + 7 ≤ q) : loadP ts lat hd kn = rl ts lat hd kn q 0 e0 0 [] := by
  obtain ⟨m, rfl⟩ : ∃ m, q = m + 5 := ⟨q - 5, by omega⟩
  rw [rl_word (.inl rfl)]
  by_cases c0 : takes ts (R ((0 : Nat) : Int)) 1 (wantS 0) = true
  rotate_left
  · rw [if_neg c0]
    have e1 : h1P ts lat = ⟨0, 2, lat, colAt ts 0⟩ := congrArg Prod.snd (take_no (lat := lat) c0)
    exact load_err (by rw [dead1 (by rw [e1]; simp), e1]; rfl) (by decide)
  rw [if_pos c0]
  have e1 : h1P ts lat = R 1 := congrArg Prod.snd (take_yes (lat := lat) c0)
  rw [Nat.zero_add, rl_name]
  by_cases c1 : takes ts (R 1) 1 ⟨#[]⟩ = true
  rotate_left
  · rw [if_neg c1]
    have e2 : h2P ts lat = (noTok, ⟨1, 2, lat, colAt ts 1⟩) := by unfold h2P; rw [e1]; exact take_no c1
    exact load_err (by rw [dead2 (by rw [e2]; simp), e2]) (by decide)
  rw [if_pos c1]
  have e2 : h2P ts lat = (at_ ts 1, R 2) := by unfold h2P; rw [e1]; exact take_yes c1
  by_cases c2 : nameB (at_ ts 1).text = true
  rotate_left
  · rw [if_neg c2]
    have e3 : h3P ts lat = ⟨2, 4, lat, colAt ts 1⟩ := by
      unfold h3P; rw [e2]
      simp only
      rw [show (!nameB (at_ ts 1).text) = true by simpa using c2, bad_R]; rfl
    exact load_err (by rw [dead3 (by rw [e3]; simp), e3]) (by decide)
  rw [if_pos c2]
  have e3 : h3P ts lat = R 2 := by unfold h3P; rw [e2]; simp only; rw [c2]; exact bad_no
  rw [rl_word (.inr (.inl rfl))]
  by_cases c3 : takes ts (R ((2 : Nat) : Int)) 1 (wantS 2) = true
  rotate_left
  · rw [if_neg c3]
    have e4 : h4P ts lat = ⟨2, 2, lat, colAt ts 2⟩ := by unfold h4P; rw [e3]; exact congrArg Prod.snd (take_no (lat := lat) c3)
    exact load_err (by rw [dead4 (by rw [e4]; simp), e4]; rfl) (by decide)
  rw [if_pos c3]
  have e4 : h4P ts lat = R 3 := by unfold h4P; rw [e3]; exact congrArg Prod.snd (take_yes (lat := lat) c3)
  rw [rl_num]
  by_cases c4 : takes ts (R 3) 2 ⟨#[]⟩ = true
  rotate_left
  · rw [if_neg c4]
    have e5 : h5P ts lat = (noTok, ⟨3, 2, lat, colAt ts 3⟩) := by unfold h5P; rw [e4]; exact take_no c4
    exact load_err (by rw [dead5 (by rw [e5]; simp), e5]) (by decide)
  rw [if_pos c4]
  have e5 : h5P ts lat = (at_ ts 3, R 4) := by unfold h5P; rw [e4]; exact take_yes c4
  by_cases c5 : numB (at_ ts 3).num = true
  rotate_left
  · rw [if_neg c5]
    have e6 : h6P ts lat = ⟨4, 6, lat, colAt ts 3⟩ := by
      unfold h6P; rw [e5]
      simp only
      rw [show (!numB (at_ ts 3).num) = true by simpa using c5, bad_R]; rfl
    exact load_err (by rw [dead6 (by rw [e6]; simp), e6]) (by decide)
  rw [if_pos c5]
  have e6 : h6P ts lat = R 4 := by unfold h6P; rw [e5]; simp only; rw [c5]; exact bad_no
  rw [rl_word (.inr (.inr rfl))]
  by_cases c6 : takes ts (R ((4 : Nat) : Int)) 1 (wantS 4) = true
  rotate_left
  · rw [if_neg c6]
    have e7 : h7P ts lat = ⟨4, 2, lat, colAt ts 4⟩ := by unfold h7P; rw [e6]; exact congrArg Prod.snd (take_no (lat := lat) c6)
    exact load_err (by rw [dead7 (by rw [e7]; simp), e7]; rfl) (by decide)
  rw [if_pos c6]
  have e7 : h7P ts lat = R ((5 : Nat) : Int) := by unfold h7P; rw [e6]; exact congrArg Prod.snd (take_yes (lat := lat) c6)
  have hl := (takes_iff.1 c6).1
  have := loop_rl (ts := ts) (lat := lat) (hd := hd) (kn := kn) (nm := (at_ ts 1).text) (dd := (at_ ts 3).num.tdiv 1000) (ts.length + 1) m 5 [] (by omega) (by omega) (by omega) (by simp) (by omega)
  rw [← this]
  unfold loadP h10P h9P lpP loopEnd
  rw [e7, e2, e5]
  rfl
end Go.Aw.S15
