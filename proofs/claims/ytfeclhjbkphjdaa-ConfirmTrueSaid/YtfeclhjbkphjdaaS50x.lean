/-
  Chapter 50: the law of calm.
-/
import Derived.Test.YtfeclhjbkphjdaaS50w
namespace Go.Aw.S50
open Go.RowKit Go.Proofs Go.Aw.Tab
set_option linter.unusedSimpArgs false
set_option linter.unusedVariables false
set_option maxRecDepth 10000
set_option maxHeartbeats 2000000
set_option pp.deepTerms false
set_option pp.deepTerms.threshold 4
set_option pp.maxSteps 1500
variable {w0 : World} {n : Nat} {H : Heap} {K : Value → Nat → Heap → Prop} {pv : Value} {D0 : Nat → Prop} {xs : List ByteArray}
def strC (s : ByteArray) : List Value := [.string s]
attribute [local simp] Ans.cells Ask.cells Opn.cells Wt.cells Qt.cells intC NS.cells strC
/-- The outcomes of the first requests. -/
def outsJ (xs : List ByteArray) (j : Nat) : List Ans := (List.range j).map fun i : Nat => ⟨1, (i : Int) + 1, 0, at_ xs (i : Int) ++ at_ xs (i : Int)⟩
theorem outsJ_next (xs : List ByteArray) (j : Nat) : outsJ xs (j + 1) = outsJ xs j ++ [⟨1, (j : Int) + 1, 0, at_ xs (j : Int) ++ at_ xs (j : Int)⟩] := by
  unfold outsJ
  rw [List.range_succ, List.map_append]; rfl
theorem outsJ_len (xs : List ByteArray) (j : Nat) : (outsJ xs j).length = j := by simp [outsJ]
theorem outsJ_at (xs : List ByteArray) {j i : Nat} (h : i < j) : at_ (outsJ xs j) (i : Int) = ⟨1, (i : Int) + 1, 0, at_ xs (i : Int) ++ at_ xs (i : Int)⟩ := by
  rw [at_nat (by rw [outsJ_len]; exact h)]
  simp [outsJ]
/-- The server has answered the first requests. -/
structure SvOk (m : Int → List (Int × Ans) × Int) (j : Nat) : Prop where
  keys : ∀ q ∈ (m 1).1, q.1 ≤ j
  floor : (m 1).2 ≤ j
/-- The first requests have their outcomes. -/
structure Calm (xs : List ByteArray) (p : NP) (j : Nat) : Prop where
  c : p.c = ⟨4, 2, if j = 0 then 0 else 1, j, [], outsJ xs j⟩
  sv : p.sv = ⟨1, 2, 0, 0, j⟩
  ok : SvOk p.m j
  asks : p.asks = []
  answers : p.answers = []
/-- One request is under way, to a server that is known (b = 1) or not. -/
structure Way (xs : List ByteArray) (p : NP) (j : Nat) (b : Int) : Prop where
  c : p.c = ⟨4, 2, b, j + 1, [⟨b, j + 1, at_ xs (j : Int), b != 0, 0, 0⟩], outsJ xs j⟩
  sv : p.sv = ⟨1, 2, 0, 0, j⟩
  ok : SvOk p.m j
  asks : p.asks = [⟨b, j + 1, at_ xs (j : Int)⟩]
  answers : p.answers = []
/-- How far a request is. -/
def Ph (xs : List ByteArray) (j : Nat) : Nat → NP → Prop
  | 0, p => Calm xs p (j + 1)
  | 1, p => Way xs p j 1
  | _, p => Way xs p j 0
theorem ix0 : ixW 0 1 = 0 := rfl
theorem Calm.send {p : NP} {j : Nat} (h : Calm xs p j) (hs : (at_ xs (j : Int)).size ≤ 200) : Way xs (stepP p 0 0 (at_ xs (j : Int))) j (if j = 0 then 0 else 1) := by
  obtain ⟨h1, h2, h3, h4, h5⟩ := h
  have e : stepP p 0 0 (at_ xs (j : Int)) = sendN p (at_ xs (j : Int)) := by unfold stepP; rw [if_pos rfl]
  have e2 : sendP p.c (at_ xs (j : Int)) = (((newW p.c (at_ xs (j : Int))).ask, 0), { p.c with sent := p.c.sent + 1, opn := p.c.opn ++ [newW p.c (at_ xs (j : Int))] }) := by
    unfold sendP
    rw [if_neg (by omega), if_neg (by rw [h1]; simp)]
  rw [e]
  unfold sendN
  rw [e2, if_pos rfl]
  refine ⟨?_, h2, h3, ?_, h5⟩
  · dsimp only
    rw [h1]; rfl
  · dsimp only
    rw [h4, h1]; rfl
theorem Way.round0 {p : NP} {j : Nat} (h : Way xs p j 0) (hs : (at_ xs (j : Int)).size ≤ 200) (hj : j ≤ 100) : Way xs (stepP (stepP p 2 0 ⟨#[]⟩) 3 0 ⟨#[]⟩) j 1 := by
  obtain ⟨h1, h2, h3, h4, h5⟩ := h
  have e1 : stepP p 2 0 ⟨#[]⟩ = { p with asks := [], answers := [⟨1, j + 1, 15, ⟨#[]⟩⟩], given := p.given ++ [⟨1, j + 1, 15, ⟨#[]⟩⟩] } := by
    unfold stepP
    rw [if_neg (by omega), if_neg (by omega), if_pos (by omega)]
    unfold askN
    rw [if_neg (by rw [h4]; simp)]
    dsimp only
    rw [if_pos (show (0 : Int).tmod 2 = 0 from rfl), h4]
    have hh : hnP { p with asks := cut [(⟨0, j + 1, at_ xs (j : Int)⟩ : Ask)] (ixW 0 1) } ⟨0, j + 1, at_ xs (j : Int)⟩ = ((⟨1, j + 1, 15, ⟨#[]⟩⟩, false, 0), p.sv) := by
      unfold hnP handleP
      dsimp only
      rw [if_neg (by omega), if_pos (by rw [h2]; simp), h2]
    show serveP { p with asks := cut [(⟨0, j + 1, at_ xs (j : Int)⟩ : Ask)] (ixW 0 1) } ⟨0, j + 1, at_ xs (j : Int)⟩ = _
    unfold serveP
    rw [hh, if_neg (by simp), if_neg (by simp)]
    unfold gotP
    dsimp only
    rw [h5, ix0]; rfl
  rw [e1]
  unfold stepP
  rw [if_neg (by omega), if_neg (by omega), if_neg (by omega), if_pos (by omega)]
  unfold ansN
  rw [if_neg (by simp)]
  dsimp only
  rw [if_pos (show (0 : Int).tmod 2 = 0 from rfl)]
  have hh : handC p.c ⟨1, j + 1, 15, ⟨#[]⟩⟩ = ([⟨1, j + 1, at_ xs (j : Int)⟩], ⟨4, 2, 1, j + 1, [⟨1, j + 1, at_ xs (j : Int), true, 0, 0⟩], outsJ xs j⟩) := by
    rw [h1]
    unfold handC
    simp [fidx, at_, Wt.ask]
    decide
  show Way xs (handN { p with asks := [], answers := cut [(⟨1, j + 1, 15, ⟨#[]⟩⟩ : Ans)] (ixW 0 1), given := p.given ++ [⟨1, j + 1, 15, ⟨#[]⟩⟩] } ⟨1, j + 1, 15, ⟨#[]⟩⟩) j 1
  unfold handN
  dsimp only
  rw [hh]
  exact ⟨rfl, h2, h3, rfl, by rw [ix0]; rfl⟩
theorem Way.round1 {p : NP} {j : Nat} (h : Way xs p j 1) (hs : (at_ xs (j : Int)).size ≤ 200) (hj : j ≤ 100) : Calm xs (stepP (stepP p 2 0 ⟨#[]⟩) 3 0 ⟨#[]⟩) (j + 1) := by
  obtain ⟨h1, h2, h3, h4, h5⟩ := h
  have hsz : (at_ xs (j : Int) ++ at_ xs (j : Int)).size ≤ 400 := by rw [ByteArray.size_append]; omega
  have hfind : (p.m 1).1.find? (fun q => decide (((j : Int) + 1) = q.1)) = none := List.find?_eq_none.2 fun q hq => by
    have := h3.keys q hq
    simp; omega
  generalize hm' : (fun c => if c = 1 then memP 2 (j + 1) ⟨1, j + 1, 0, at_ xs (j : Int) ++ at_ xs (j : Int)⟩ (p.m c) else p.m c) = m'
  have e1 : stepP p 2 0 ⟨#[]⟩ = { p with sv := ⟨1, 2, 0, 0, j + 1⟩, m := m', asks := [], answers := [⟨1, j + 1, 0, at_ xs (j : Int) ++ at_ xs (j : Int)⟩], given := p.given ++ [⟨1, j + 1, 0, at_ xs (j : Int) ++ at_ xs (j : Int)⟩] } := by
    unfold stepP
    rw [if_neg (by omega), if_neg (by omega), if_pos (by omega)]
    unfold askN
    rw [if_neg (by rw [h4]; simp)]
    dsimp only
    rw [if_pos (show (0 : Int).tmod 2 = 0 from rfl), h4]
    have hh : hnP { p with asks := cut [(⟨1, j + 1, at_ xs (j : Int)⟩ : Ask)] (ixW 0 1) } ⟨1, j + 1, at_ xs (j : Int)⟩ = ((default, true, 0), ⟨1, 2, 1, j + 1, j⟩) := by
      unfold hnP handleP
      dsimp only
      rw [if_neg (by omega), if_neg (by rw [h2]; simp), hfind]
      dsimp only
      rw [if_neg (by have := h3.floor; omega), if_neg (by rw [h2]; simp), h2]
    show serveP { p with asks := cut [(⟨1, j + 1, at_ xs (j : Int)⟩ : Ask)] (ixW 0 1) } ⟨1, j + 1, at_ xs (j : Int)⟩ = _
    have hf : fnP { p with asks := cut [(⟨1, j + 1, at_ xs (j : Int)⟩ : Ask)] (ixW 0 1) } ⟨1, j + 1, at_ xs (j : Int)⟩ = ((⟨1, j + 1, 0, at_ xs (j : Int) ++ at_ xs (j : Int)⟩, 0), ⟨1, 2, 0, 0, j + 1⟩, m') := by
      unfold fnP
      rw [hh]
      unfold finP
      rw [if_neg (by simp), if_neg (by dsimp only; omega), ← hm']
      rfl
    unfold serveP
    rw [hh, hf, if_neg (by simp), if_pos rfl]
    unfold gotP
    dsimp only
    rw [h5, ix0]; rfl
  rw [e1]
  unfold stepP
  rw [if_neg (by omega), if_neg (by omega), if_neg (by omega), if_pos (by omega)]
  unfold ansN
  rw [if_neg (by simp)]
  dsimp only
  rw [if_pos (show (0 : Int).tmod 2 = 0 from rfl)]
  have hh : handC p.c ⟨1, j + 1, 0, at_ xs (j : Int) ++ at_ xs (j : Int)⟩ = ([], ⟨4, 2, 1, j + 1, [], outsJ xs (j + 1)⟩) := by
    rw [h1, outsJ_next]
    unfold handC
    simp [fidx, at_, endC]
  generalize hx : (⟨1, j + 1, 0, at_ xs (j : Int) ++ at_ xs (j : Int)⟩ : Ans) = x at *
  show Calm xs (handN { p with sv := ⟨1, 2, 0, 0, j + 1⟩, m := m', asks := [], answers := cut [x] (ixW 0 1), given := p.given ++ [x] } x) (j + 1)
  unfold handN
  dsimp only
  rw [hh]
  refine ⟨by simp, by simp, ⟨fun q hq => ?_, ?_⟩, rfl, by rw [ix0]; rfl⟩
  · dsimp only at hq
    rw [← hm'] at hq
    dsimp only at hq
    rw [if_pos rfl] at hq
    have hq2 : q ∈ (p.m 1).1 ++ [((j : Int) + 1, x)] := by
      unfold memP at hq
      split at hq
      · exact List.mem_of_mem_eraseP hq
      · exact hq
    rcases List.mem_append.1 hq2 with hq2 | hq2
    · have := h3.keys q hq2; omega
    · simp only [List.mem_cons, List.not_mem_nil, or_false] at hq2
      rw [hq2]; simp
  · dsimp only
    rw [← hm']
    dsimp only
    rw [if_pos rfl]
    have hf := h3.floor
    have hl := (leastK_spec ((j : Int) + 1) ((p.m 1).1 ++ [((j : Int) + 1, x)])).1
    unfold memP
    split
    · dsimp only; omega
    · dsimp only; omega
theorem Calm.tick {p : NP} {j : Nat} (h : Calm xs p j) : Calm xs (stepP p 1 0 ⟨#[]⟩) j := by
  obtain ⟨h1, h2, h3, h4, h5⟩ := h
  have e : stepP p 1 0 ⟨#[]⟩ = p := by
    unfold stepP
    rw [if_neg (by omega), if_pos rfl]
    unfold tickN
    have : tickP p.c = ([], p.c) := by rw [h1]; simp [tickP, tkA, tkW, tkD]
    rw [this]
    simp
  rw [e]
  exact ⟨h1, h2, h3, h4, h5⟩
theorem Fit.mono {p : NP} {k k' : Nat} (h : Fit p k) (hk : k ≤ k') : Fit p k' := by
  obtain ⟨d, rfl⟩ : ∃ d, k' = k + d := ⟨k' - k, by omega⟩
  clear hk
  induction d with
  | zero => exact h
  | succ d ih => exact ih.up
end Go.Aw.S50
