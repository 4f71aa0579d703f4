/-
  Chapter 15: Load.
-/
import Derived.Test.YtmgadjflgiokeaaS15j
namespace Go.Aw.S15
open Go.RowKit Go.Proofs Go.Aw.Tab
set_option linter.unusedSimpArgs false
set_option linter.unusedVariables false
set_option maxRecDepth 10000
set_option maxHeartbeats 1000000
set_option pp.deepTerms false
set_option pp.deepTerms.threshold 4
set_option pp.maxSteps 1500
attribute [local simp] Tok.cells rdC
variable {w0 : World} {n : Nat} {H : Heap} {K : Value → Nat → Heap → Prop} {s : ByteArray}
variable {tv kv : Value} {hd : Bool} {lat : Int} {r : Rd} {rp : Nat} {ts : List Tok} {D E : Nat → Prop}
theorem failP_at {e i : Int} : (failP ts lat r e i).at' = r.at' := by unfold failP; split <;> rfl
theorem takeP_at {k : Int} (h : 0 ≤ r.at' ∧ r.at' ≤ ts.length) : 0 ≤ (takeP ts lat r k s).2.at' ∧ (takeP ts lat r k s).2.at' ≤ ts.length := by
  unfold takeP
  split
  · split
    · rename_i h1
      simp [takes] at h1
      simp only; omega
    · rw [failP_at]; exact h
  · exact h
theorem failP_code {e i : Int} (he : e ≠ 0) : (failP ts lat r e i).code ≠ 0 := by
  unfold failP
  split
  · exact he
  · assumption
theorem takeP_pos {k : Int} (h : 0 ≤ r.at') (h' : (takeP ts lat r k s).2.code = 0) : 1 ≤ (takeP ts lat r k s).2.at' := by
  unfold takeP at h' ⊢
  split
  · rename_i h1
    rw [if_pos h1] at h'
    split
    · simp only; omega
    · rename_i h2
      rw [if_neg h2] at h'
      exact absurd h' (failP_code (by decide))
  · rename_i h1
    rw [if_neg h1] at h'
    exact absurd h' h1
/-- The heap of Load behind its entry: n the line, n + 3 the reader, n + 5 the group. -/
structure LSt (tv kv : Value) (hd : Bool) (lat : Int) (ts : List Tok) (n : Nat) (H : Heap) (n' : Nat) (H' : Heap) (r : Rd) (nm : ByteArray) (pv : Value) (dd : Int) : Prop where
  le : n + 6 ≤ n'
  ln : H' n = .cells [tv, .bool hd, kv, .int .i64 lat] 47 1
  rg : H' (n + 1) = .cells [.string ⟨#[]⟩, .slice none 0 0, .int .i64 0] 24 1
  rf : H' (n + 2) = .cells [.int .i64 0, .int .i64 0, .int .i64 0] 51 1
  rd : H' (n + 3) = .cells (rdC tv kv hd lat r) 85 1
  pt : H' (n + 4) = .cells [.pointer (some ⟨new (n + 3), 0, none⟩)] 83 1
  gp : H' (n + 5) = .cells [.string nm, pv, .int .i64 dd] 24 1
  fr : ∀ i, i < n → H' i = H i
  at0 : 0 ≤ r.at' ∧ r.at' ≤ ts.length
theorem LSt.step {n1 n2 : Nat} {H1 H2 : Heap} {r r' : Rd} {nm : ByteArray} {pv : Value} {dd : Int} (h : LSt tv kv hd lat ts n H n1 H1 r nm pv dd) (h1 : n1 ≤ n2) (h2 : H2 (n + 3) = .cells (rdC tv kv hd lat r') 85 1)
    (h3 : ∀ i, i < n1 → i ≠ n + 3 → H2 i = H1 i) (h4 : 0 ≤ r'.at' ∧ r'.at' ≤ ts.length) : LSt tv kv hd lat ts n H n2 H2 r' nm pv dd := by
  have := h.le
  exact ⟨by omega, by rw [h3 _ (by omega) (by omega)]; exact h.ln, by rw [h3 _ (by omega) (by omega)]; exact h.rg, by rw [h3 _ (by omega) (by omega)]; exact h.rf, h2, by rw [h3 _ (by omega) (by omega)]; exact h.pt,
    by rw [h3 _ (by omega) (by omega)]; exact h.gp, fun i hi => by rw [h3 _ (by omega) (by omega)]; exact h.fr i hi, h4⟩
theorem LSt.put {n1 : Nat} {H1 : Heap} {r : Rd} {nm nm' : ByteArray} {pv pv' : Value} {dd dd' : Int} (h : LSt tv kv hd lat ts n H n1 H1 r nm pv dd) :
    LSt tv kv hd lat ts n H n1 (hset (n + 5) (.cells [.string nm', pv', .int .i64 dd'] 24 1) H1) r nm' pv' dd' := by
  have := h.le
  refine ⟨by omega, ?_, ?_, ?_, ?_, ?_, hset_same _ _ _, fun i hi => ?_, h.at0⟩
  all_goals rw [hset_ne (by omega)]
  · exact h.ln
  · exact h.rg
  · exact h.rf
  · exact h.rd
  · exact h.pt
  · exact h.fr i hi
theorem LSt.frame {n1 n2 : Nat} {H1 H2 : Heap} {r : Rd} {nm : ByteArray} {pv : Value} {dd : Int} (h : LSt tv kv hd lat ts n H n1 H1 r nm pv dd) (h1 : n1 ≤ n2) (h3 : ∀ i, i < n + 6 → H2 i = H1 i) : LSt tv kv hd lat ts n H n2 H2 r nm pv dd := by
  have := h.le
  exact ⟨by omega, by rw [h3 _ (by omega)]; exact h.ln, by rw [h3 _ (by omega)]; exact h.rg, by rw [h3 _ (by omega)]; exact h.rf, by rw [h3 _ (by omega)]; exact h.rd, by rw [h3 _ (by omega)]; exact h.pt,
    by rw [h3 _ (by omega)]; exact h.gp, fun i hi => by rw [h3 _ (by omega)]; exact h.fr i hi, h.at0⟩
theorem LSt.mono {n1 n2 : Nat} {H1 H2 : Heap} {r : Rd} {nm : ByteArray} {pv : Value} {dd : Int} (h : LSt tv kv hd lat ts n H n1 H1 r nm pv dd) (h1 : n1 ≤ n2) (h3 : ∀ i, i < n1 → H2 i = H1 i) : LSt tv kv hd lat ts n H n2 H2 r nm pv dd :=
  h.step h1 (by rw [h3 _ (by have := h.le; omega)]; exact h.rd) (fun i hi _ => h3 i hi) h.at0
/-- What is read ahead of the points: the reader, the name, the number. -/
structure Head where
  r : Rd
  nm : ByteArray
  num : Int
theorem failP_bad {e i : Int} {b : Bool} : (if r.code = 0 ∧ b = true then failP ts lat r e i else r) = if b = true then failP ts lat r e i else r := by
  by_cases h : r.code = 0
  · simp [h]
  · rw [if_neg (fun hc => h hc.1)]; split
    · rw [failP, if_neg h]
    · rfl
def bad (b : Bool) (ts : List Tok) (lat : Int) (r : Rd) (e i : Int) : Rd := if r.code = 0 ∧ b = true then failP ts lat r e i else r
def h1P (ts : List Tok) (lat : Int) : Rd := (takeP ts lat ⟨0, 0, 0, 0⟩ 1 ⟨#[103, 114, 111, 117, 112]⟩).2
def h2P (ts : List Tok) (lat : Int) : Tok × Rd := takeP ts lat (h1P ts lat) 1 ⟨#[]⟩
def h3P (ts : List Tok) (lat : Int) : Rd := bad (!nameB (h2P ts lat).1.text) ts lat (h2P ts lat).2 4 ((h2P ts lat).2.at' - 1)
def h4P (ts : List Tok) (lat : Int) : Rd := (takeP ts lat (h3P ts lat) 1 ⟨#[100, 101, 97, 100]⟩).2
def h5P (ts : List Tok) (lat : Int) : Tok × Rd := takeP ts lat (h4P ts lat) 2 ⟨#[]⟩
def numB (x : Int) : Bool := decide (x.tmod 1000 = 0) && (decide (0 ≤ x.tdiv 1000) && decide (x.tdiv 1000 ≤ 3600))
def h6P (ts : List Tok) (lat : Int) : Rd := bad (!numB (h5P ts lat).1.num) ts lat (h5P ts lat).2 6 ((h5P ts lat).2.at' - 1)
def h7P (ts : List Tok) (lat : Int) : Rd := (takeP ts lat (h6P ts lat) 1 ⟨#[111, 102]⟩).2
theorem bad_at {b : Bool} {e i : Int} (h : 0 ≤ r.at' ∧ r.at' ≤ ts.length) : 0 ≤ (bad b ts lat r e i).at' ∧ (bad b ts lat r e i).at' ≤ ts.length := by
  unfold bad
  split
  · rw [failP_at]; exact h
  · exact h
theorem bad' {b : Bool} {e i : Int} : bad b ts lat r e i = if b = true then failP ts lat r e i else r := failP_bad
def REGS (n : Nat) : Fr := [(1, .pointer (some ⟨new n, 0, none⟩)), (2, .pointer (some ⟨new (n + 1), 0, none⟩)), (3, .pointer (some ⟨new (n + 2), 0, none⟩)), (4, .pointer (some ⟨new (n + 4), 0, none⟩)), (5, .func (.func 41) #[] #[.pointer (some ⟨new (n + 4), 0, none⟩)]), (6, .pointer (some ⟨new (n + 5), 0, none⟩))]
attribute [local simp] REGS
theorem takeP_next {k : Int} (h : (takeP ts lat r k s).2.code = 0) : (takeP ts lat r k s).2.at' = r.at' + 1 := by
  unfold takeP at h ⊢
  split
  · rename_i h1
    rw [if_pos h1] at h
    split
    · rfl
    · rename_i h2
      rw [if_neg h2] at h
      exact absurd h (failP_code (by decide))
  · rename_i h1
    rw [if_neg h1] at h
    exact absurd h h1
def ptOk (ts : List Tok) (r : Rd) (first : Bool) : Bool := decide (r.code = 0) && (first || decide (r.at' < ts.length))
def stepP (ts : List Tok) (lat : Int) (r : Rd) (ps : List ByteArray) : Rd × List ByteArray :=
  if (takeP ts lat r 1 ⟨#[]⟩).2.code = 0 then
    if nameB (takeP ts lat r 1 ⟨#[]⟩).1.text = true then
      if ps.length = 16 then (failP ts lat (takeP ts lat r 1 ⟨#[]⟩).2 7 ((takeP ts lat r 1 ⟨#[]⟩).2.at' - 1), ps)
      else if (ps.any fun x => decide (x = (takeP ts lat r 1 ⟨#[]⟩).1.text)) = true then (failP ts lat (takeP ts lat r 1 ⟨#[]⟩).2 5 ((takeP ts lat r 1 ⟨#[]⟩).2.at' - 1), ps)
      else ((takeP ts lat r 1 ⟨#[]⟩).2, ps ++ [(takeP ts lat r 1 ⟨#[]⟩).1.text])
    else (failP ts lat (takeP ts lat r 1 ⟨#[]⟩).2 4 ((takeP ts lat r 1 ⟨#[]⟩).2.at' - 1), ps)
  else ((takeP ts lat r 1 ⟨#[]⟩).2, ps)
def loopP (ts : List Tok) (lat : Int) : Nat → Bool → Rd → List ByteArray → Rd × List ByteArray
  | 0, _, r, ps => (r, ps)
  | k + 1, first, r, ps => if ptOk ts r first = true then loopP ts lat k false (stepP ts lat r ps).1 (stepP ts lat r ps).2 else (r, ps)
def lpP (ts : List Tok) (lat : Int) : Rd × List ByteArray := loopP ts lat (ts.length + 1) true (h7P ts lat) []
theorem stepP_next {ps : List ByteArray} (h : (stepP ts lat r ps).1.code = 0) : (stepP ts lat r ps).1.at' = r.at' + 1 := by
  unfold stepP at h ⊢
  split at h <;> rename_i h1
  · rw [if_pos h1]
    split at h <;> rename_i h2
    · rw [if_pos h2]
      split at h <;> rename_i h3
      · exact absurd h (failP_code (by decide))
      · rw [if_neg h3]
        split at h <;> rename_i h4
        · exact absurd h (failP_code (by decide))
        · rw [if_neg h4]; exact takeP_next h1
    · exact absurd h (failP_code (by decide))
  · exact absurd h h1
theorem loopP_stop {k : Nat} {first : Bool} {ps : List ByteArray} (h : ptOk ts r first = false) : loopP ts lat k first r ps = (r, ps) := by
  cases k with
  | zero => rfl
  | succ k => rw [loopP, if_neg (by rw [h]; exact Bool.false_ne_true)]
def h9P (ts : List Tok) (lat : Int) : Rd := bad (decide ((lpP ts lat).2.length < 2)) ts lat (lpP ts lat).1 1 (ts.length - 1)
def h10P (ts : List Tok) (lat : Int) (hd : Bool) (kn : Nat) : Rd := bad (hd || decide (0 < kn)) ts lat (h9P ts lat) 2 (ts.length - 1)
structure LR where
  nm : ByteArray
  ps : List ByteArray
  dd : Int
  code : Int
  line : Int
  col : Int
  deriving DecidableEq
def loadP (ts : List Tok) (lat : Int) (hd : Bool) (kn : Nat) : LR :=
  if (h10P ts lat hd kn).code = 0 then ⟨(h2P ts lat).1.text, (lpP ts lat).2, (h5P ts lat).1.num.tdiv 1000, 0, 0, 0⟩ else ⟨⟨#[]⟩, [], 0, (h10P ts lat hd kn).code, (h10P ts lat hd kn).line, (h10P ts lat hd kn).col⟩
def loadV (x : LR) (v : Value) : Value := .tuple #[.agg #[.string x.nm, v, .int .i64 x.dd], .agg #[.int .i64 x.code, .int .i64 x.line, .int .i64 x.col]]
structure PS where
  k : Nat
  first : Bool
  r : Rd
  ps : List ByteArray
  v : Value
  E : Nat → Prop
theorem num_ok (hq : ∀ t ∈ ts, int64 t.num) (r : Rd) (k : Int) (s : ByteArray) (h0 : 0 ≤ r.at') : int64 (takeP ts lat r k s).1.num := by
  unfold takeP
  split
  · split
    · rename_i h1
      simp [takes] at h1
      obtain ⟨j, hj⟩ := Int.eq_ofNat_of_zero_le h0
      simp only
      rw [hj, at_nat (by omega)]
      exact hq _ (List.getElem_mem _)
    · simp [noTok, int64]
  · simp [noTok, int64]
theorem tdiv_ok {x : Int} (h : int64 x) : int64 (x.tdiv 1000) := by
  unfold int64 at *
  rcases Int.le_total 0 x with hx | hx
  · rw [Int.tdiv_eq_ediv_of_nonneg hx]; omega
  · obtain ⟨y, rfl⟩ : ∃ y, x = -y := ⟨-x, by omega⟩
    rw [Int.neg_tdiv, Int.tdiv_eq_ediv_of_nonneg (by omega)]; omega
theorem Load_ok {A : Option Addr} {kn c : Nat} (hs : SlR ⟨Try.prog, w0⟩ H D 4 Tok.cells tv ts) (hD : ∀ i, D i → i < n) (hb : ts.length ≤ 1000000) (hq : ∀ t ∈ ts, int64 t.num) 
    (hk : ∀ n' H' v E, n ≤ n' → (∀ i, i < n → H' i = H i) → (∀ i, E i → n ≤ i) → OwR ⟨Try.prog, w0⟩ H' n' E 9 1 strC v (loadP ts lat hd kn).ps → K (loadV (loadP ts lat hd kn) v) n' H') :
    ACall ⟨Try.prog, w0⟩ 19 [.agg #[tv, .bool hd, .slice A kn c, .int .i64 lat]] K n H := by
  have hb : ts.length < 9223372036854775807 := by omega
  have hsc := hs.cells
  refine ACall.code Try.func19 rfl Try.ntmps19 Try.results19 (by simp) fun J0 => ?_
  refine AW.step ?_
  simp (disch := omega) [-hset_if, -Bool.decide_and, hset_ne, hsc]
  refine AW.step ?_
  simp (disch := omega) [-hset_if, -Bool.decide_and, hset_ne, hsc]
  refine AW.step ?_
  simp (disch := omega) [-hset_if, -Bool.decide_and, hset_ne, hsc]
  refine AW.step ?_
  simp (disch := omega) [-hset_if, -Bool.decide_and, hset_ne, hsc]
  refine AW.step ?_
  simp (disch := omega) [-hset_if, -Bool.decide_and, hset_ne, hsc]
  refine take_ok (r := ⟨0, 0, 0, 0⟩) (hd := hd) (kv := .slice A kn c) (lat := lat) (ts := ts) (rp := n + 3) (hs.frame (fun i hi => by have := hD i hi; simp (disch := omega) [-hset_if, -Bool.decide_and, hset_ne])) (by simp (disch := omega) [-hset_if, -Bool.decide_and, hset_ne]) (by omega) (fun i hi => by have := hD i hi; omega) (by simp) (by simp) hb ?_
  intro n1 H1 a1 a2 a3
  have L1 : LSt tv (.slice A kn c) hd lat ts n H n1 H1 (h1P ts lat) ⟨#[]⟩ (.slice none 0 0) 0 := by
    refine ⟨by omega, ?_, ?_, ?_, ?_, ?_, ?_, ?_, takeP_at (by simp)⟩
    · simp (disch := omega) [-hset_if, -Bool.decide_and, hset_ne, a3]
    · simp (disch := omega) [-hset_if, -Bool.decide_and, hset_ne, a3]
    · simp (disch := omega) [-hset_if, -Bool.decide_and, hset_ne, a3]
    · exact a2
    · simp (disch := omega) [-hset_if, -Bool.decide_and, hset_ne, a3]
    · simp (disch := omega) [-hset_if, -Bool.decide_and, hset_ne, a3]
    · exact fun i hi => by simp (disch := omega) [-hset_if, -Bool.decide_and, hset_ne, a3]
  have hle := L1.le
  clear a1 a2 a3
  simp (disch := omega) [-hset_if, -Bool.decide_and, hset_ne, L1.pt]
  refine AW.step ?_
  simp (disch := omega) [-hset_if, -Bool.decide_and, hset_ne, L1.pt]
  refine take_ok (rp := n + 3) (hd := hd) (kv := .slice A kn c) (lat := lat) (ts := ts) (hs.frame (fun i hi => L1.fr i (hD i hi))) L1.rd (by have := L1.le; omega) (fun i hi => by have := hD i hi; omega) L1.at0.1 L1.at0.2 hb ?_
  intro n2 H2 a1 a2 a3
  have L2 := L1.step a1 a2 a3 (takeP_at L1.at0)
  have hle := L2.le
  have fr2 := a3
  have le2 := a1
  clear a1 a2 a3
  rw [show takeP ts lat (h1P ts lat) 1 ⟨#[]⟩ = h2P ts lat from rfl] at L2 ⊢
  have hp2 : (h2P ts lat).2.code = 0 → 1 ≤ (h2P ts lat).2.at' := takeP_pos L1.at0.1
  simp (disch := omega) [-hset_if, -Bool.decide_and, hset_ne, L2.gp]
  have M2 : LSt tv (.slice A kn c) hd lat ts n H n2 (hset (n + 5) (.cells [.string (h2P ts lat).1.text, .slice none 0 0, .int .i64 0] 24 1) H2) _ (h2P ts lat).1.text (.slice none 0 0) 0 := L2.put
  generalize hset (n + 5) (.cells [.string (h2P ts lat).1.text, .slice none 0 0, .int .i64 0] 24 1) H2 = G2 at M2 ⊢
  clear L2
  refine AW.cut (σ := Unit) (fun _ => REGS n) (fun _ n' H' => LSt tv (.slice A kn c) hd lat ts n H n' H' (h3P ts lat) (h2P ts lat).1.text (.slice none 0 0) 0) ?_ ?_
  rotate_left
  · simp (disch := omega) [-hset_if, -Bool.decide_and, hset_ne]
    refine good_ok M2.pt M2.rd ?_
    simp (disch := omega) [-hset_if, -Bool.decide_and, hset_ne]
    refine gif_dec (fun h1 => ?_) (fun h1 => ?_)
    · simp (disch := omega) [-hset_if, -Bool.decide_and, hset_ne, M2.gp]
      refine Name_ok ?_
      intro n3 H3 a1 a2
      have M3 := M2.mono a1 a2
      simp (disch := omega) [-hset_if, -Bool.decide_and, hset_ne]
      refine cif_var (fun h2 => ?_) (fun h2 => ?_)
      · simp (disch := omega) [-hset_if, -Bool.decide_and, hset_ne]
        refine Join.mk () (by simp (disch := omega) [-hset_if, -Bool.decide_and, hset_ne, REGS]) ?_
        rwa [h3P, bad, if_neg (fun hc => by rw [h2] at hc; simp at hc)]
      · simp (disch := omega) [-hset_if, -Bool.decide_and, hset_ne]
        refine AW.draw (X := ⟨_, 168, _, _⟩) (id := 7) mixed (.take 0 <| .take 1 <| .take 2 <| .take 3 <| .take 4 <| .take 5 <| .each 6 [] (.done) <| .stop) (by kernel_rfl) ?_
        have hg := hp2 h1
        have hg2 := M3.at0.2
        simp (disch := omega) [-hset_if, -Bool.decide_and, hset_ne, M3.pt, M3.rd]
        refine fail_ok (rp := n + 3) (hd := hd) (kv := .slice A kn c) (lat := lat) (ts := ts) (hs.frame (fun i hi => M3.fr i (hD i hi))) M3.rd (by have := M3.le; omega) (fun _ => by omega) hb ?_
        intro n4 H4 b1 b2 b3
        have M4 := M3.step b1 b2 b3 (by rw [failP_at]; exact M3.at0)
        simp (disch := omega) [-hset_if, -Bool.decide_and, hset_ne]
        refine Join.mk () (by simp (disch := omega) [-hset_if, -Bool.decide_and, hset_ne, REGS]) ?_
        rw [h3P, bad, if_pos ⟨h1, by rw [h2]; rfl⟩]
        exact M4
    · simp (disch := omega) [-hset_if, -Bool.decide_and, hset_ne]
      refine Join.mk () (by simp (disch := omega) [-hset_if, -Bool.decide_and, hset_ne, REGS]) ?_
      rwa [h3P, bad, if_neg (fun hc => h1 hc.1)]
  clear hp2 M2 L1
  intro _ n1 H1 L1
  have hle := L1.le
  refine AW.step ?_
  simp (disch := omega) [-hset_if, -Bool.decide_and, hset_ne, L1.pt, REGS]
  refine take_ok (rp := n + 3) (hd := hd) (kv := .slice A kn c) (lat := lat) (ts := ts) (hs.frame (fun i hi => L1.fr i (hD i hi))) L1.rd (by have := L1.le; omega) (fun i hi => by have := hD i hi; omega) L1.at0.1 L1.at0.2 hb ?_
  intro n2 H2 a1 a2 a3
  have L2 := L1.step a1 a2 a3 (takeP_at L1.at0)
  have hle := L2.le
  have fr2 := a3
  have le2 := a1
  clear a1 a2 a3
  rw [show (takeP ts lat (h3P ts lat) 1 ⟨#[100, 101, 97, 100]⟩).2 = h4P ts lat from rfl] at L2
  clear L1
  simp (disch := omega) [-hset_if, -Bool.decide_and, hset_ne, L2.pt]
  refine AW.step ?_
  simp (disch := omega) [-hset_if, -Bool.decide_and, hset_ne, L2.pt]
  refine take_ok (rp := n + 3) (hd := hd) (kv := .slice A kn c) (lat := lat) (ts := ts) (hs.frame (fun i hi => L2.fr i (hD i hi))) L2.rd (by have := L2.le; omega) (fun i hi => by have := hD i hi; omega) L2.at0.1 L2.at0.2 hb ?_
  intro n3 H3 a1 a2 a3
  have L3 := L2.step a1 a2 a3 (takeP_at L2.at0)
  have hle := L3.le
  have fr3 := a3
  have le3 := a1
  clear a1 a2 a3
  rw [show takeP ts lat (h4P ts lat) 2 ⟨#[]⟩ = h5P ts lat from rfl] at L3 ⊢
  have hp2 : (h5P ts lat).2.code = 0 → 1 ≤ (h5P ts lat).2.at' := takeP_pos L2.at0.1
  obtain ⟨hd1, hd2⟩ := tdiv_ok (num_ok hq (h4P ts lat) 2 ⟨#[]⟩ L2.at0.1 (lat := lat))
  rw [show takeP ts lat (h4P ts lat) 2 ⟨#[]⟩ = h5P ts lat from rfl] at hd1 hd2
  simp (disch := omega) [-hset_if, -Bool.decide_and, hset_ne, L3.gp]
  refine AW.cut (σ := Unit) (fun _ => (7, .int .i64 (h5P ts lat).1.num) :: REGS n) (fun _ n' H' => LSt tv (.slice A kn c) hd lat ts n H n' H' (h6P ts lat) (h2P ts lat).1.text (.slice none 0 0) 0) ?_ ?_
  rotate_left
  · simp (disch := omega) [-hset_if, -Bool.decide_and, hset_ne]
    refine good_ok L3.pt L3.rd ?_
    simp (disch := omega) [-hset_if, -Bool.decide_and, hset_ne]
    refine gif_dec (fun h1 => ?_) (fun h1 => ?_)
    · simp (disch := omega) [-hset_if, -Bool.decide_and, hset_ne]
      refine gif_bne (fun h2 => ?_) (fun h2 => ?_)
      · simp (disch := omega) [-hset_if, -Bool.decide_and, hset_ne]
        refine dead_ok _ ?_
        simp (disch := omega) [-hset_if, -Bool.decide_and, hset_ne]
        refine cif_var (fun h3 => ?_) (fun h3 => ?_)
        · simp at h3
          simp (disch := omega) [-hset_if, -Bool.decide_and, hset_ne]
          refine AW.draw (X := ⟨_, 168, _, _⟩) (id := 11) mixed (.take 0 <| .take 1 <| .take 2 <| .take 3 <| .take 4 <| .take 5 <| .each 6 [] (.done) <| .stop) (by kernel_rfl) ?_
          have hg := hp2 h1
          have hg2 := L3.at0.2
          simp (disch := omega) [-hset_if, -Bool.decide_and, hset_ne, L3.pt, L3.rd]
          refine fail_ok (rp := n + 3) (hd := hd) (kv := .slice A kn c) (lat := lat) (ts := ts) (hs.frame (fun i hi => L3.fr i (hD i hi))) L3.rd (by have := L3.le; omega) (fun _ => by omega) hb ?_
          intro n4 H4 b1 b2 b3
          have M4 := L3.step b1 b2 b3 (by rw [failP_at]; exact L3.at0)
          simp (disch := omega) [-hset_if, -Bool.decide_and, hset_ne]
          refine Join.mk () (by simp (disch := omega) [-hset_if, -Bool.decide_and, hset_ne, REGS]) ?_
          rw [h6P, bad, if_pos ⟨h1, (by simp [numB]; omega)⟩]
          exact M4
        · simp at h3
          simp (disch := omega) [-hset_if, -Bool.decide_and, hset_ne]
          refine Join.mk () (by simp (disch := omega) [-hset_if, -Bool.decide_and, hset_ne, REGS]) ?_
          rwa [h6P, bad, if_neg (fun hc => by have := hc.2; simp [numB] at this; omega)]
      · simp (disch := omega) [-hset_if, -Bool.decide_and, hset_ne]
        refine AW.draw (X := ⟨_, 168, _, _⟩) (id := 11) mixed (.take 0 <| .take 1 <| .take 2 <| .take 3 <| .take 4 <| .take 5 <| .each 6 [] (.done) <| .stop) (by kernel_rfl) ?_
        have hg := hp2 h1
        have hg2 := L3.at0.2
        simp (disch := omega) [-hset_if, -Bool.decide_and, hset_ne, L3.pt, L3.rd]
        refine fail_ok (rp := n + 3) (hd := hd) (kv := .slice A kn c) (lat := lat) (ts := ts) (hs.frame (fun i hi => L3.fr i (hD i hi))) L3.rd (by have := L3.le; omega) (fun _ => by omega) hb ?_
        intro n4 H4 b1 b2 b3
        have M4 := L3.step b1 b2 b3 (by rw [failP_at]; exact L3.at0)
        simp (disch := omega) [-hset_if, -Bool.decide_and, hset_ne]
        refine Join.mk () (by simp (disch := omega) [-hset_if, -Bool.decide_and, hset_ne, REGS]) ?_
        rw [h6P, bad, if_pos ⟨h1, (by simp [numB, h2])⟩]
        exact M4
    · simp (disch := omega) [-hset_if, -Bool.decide_and, hset_ne]
      refine Join.mk () (by simp (disch := omega) [-hset_if, -Bool.decide_and, hset_ne, REGS]) ?_
      rwa [h6P, bad, if_neg (fun hc => h1 hc.1)]
  clear hp2 L3 L2
  intro _ n1 H1 L1
  have hle := L1.le
  refine AW.step ?_
  simp (disch := omega) [-hset_if, -Bool.decide_and, hset_ne, L1.gp, REGS]
  have M1 : LSt tv (.slice A kn c) hd lat ts n H n1 (hset (n + 5) (.cells [.string (h2P ts lat).1.text, .slice none 0 0, .int .i64 ((h5P ts lat).1.num.tdiv 1000)] 24 1) H1) _ (h2P ts lat).1.text (.slice none 0 0) ((h5P ts lat).1.num.tdiv 1000) := L1.put
  generalize hset (n + 5) (.cells [.string (h2P ts lat).1.text, .slice none 0 0, .int .i64 ((h5P ts lat).1.num.tdiv 1000)] 24 1) H1 = G1 at M1 ⊢
  clear L1
  have hle := M1.le
  refine AW.step ?_
  simp (disch := omega) [-hset_if, -Bool.decide_and, hset_ne, M1.pt]
  refine take_ok (rp := n + 3) (hd := hd) (kv := .slice A kn c) (lat := lat) (ts := ts) (hs.frame (fun i hi => M1.fr i (hD i hi))) M1.rd (by have := M1.le; omega) (fun i hi => by have := hD i hi; omega) M1.at0.1 M1.at0.2 hb ?_
  intro n2 H2 a1 a2 a3
  have L2 := M1.step a1 a2 a3 (takeP_at M1.at0)
  have hle := L2.le
  have fr2 := a3
  have le2 := a1
  clear a1 a2 a3
  rw [show (takeP ts lat (h6P ts lat) 1 ⟨#[111, 102]⟩).2 = h7P ts lat from rfl] at L2
  simp (disch := omega) [-hset_if, -Bool.decide_and, hset_ne]
  refine AW.cut (σ := Value × (Nat → Prop)) (fun _ => REGS n) (fun s n' H' => LSt tv (.slice A kn c) hd lat ts n H n' H' (lpP ts lat).1 (h2P ts lat).1.text s.1 ((h5P ts lat).1.num.tdiv 1000) ∧ OwR ⟨Try.prog, w0⟩ H' n' s.2 9 1 strC s.1 (lpP ts lat).2 ∧ (∀ i, s.2 i → n + 6 ≤ i)) ?_ ?_
  rotate_left
  · simp (disch := omega) [-hset_if, -Bool.decide_and, hset_ne]
    refine AW.while (σ := PS) (fun s => s.k) (fun s => (8, .bool s.first) :: REGS n)
      (fun s n' H' => LSt tv (.slice A kn c) hd lat ts n H n' H' s.r (h2P ts lat).1.text s.v ((h5P ts lat).1.num.tdiv 1000) ∧ OwR ⟨Try.prog, w0⟩ H' n' s.E 9 1 strC s.v s.ps ∧ (∀ i, s.E i → n + 6 ≤ i) ∧ loopP ts lat s.k s.first s.r s.ps = lpP ts lat ∧ (s.r.code = 0 → ts.length + 1 ≤ s.k + s.r.at') ∧ s.ps.length ≤ 16)
      ⟨ts.length + 1, true, h7P ts lat, [], .slice none 0 0, fun _ => False⟩ ?_ ?_ ?_
    · simp (disch := omega) [-hset_if, -Bool.decide_and, hset_ne]
    · exact ⟨L2, OwR.nil (by omega), fun _ h => h.elim, rfl, fun _ => by have := L2.at0.1; simp only; omega, by simp⟩
    rintro ⟨k, first, r, ps, v, E⟩ n3 H3 ⟨g1, g2, g3, g4, g5, g6⟩
    dsimp only at g1 g2 g3 g4 g5 g6
    have hle := g1.le
    simp (disch := omega) [-hset_if, -Bool.decide_and, hset_ne]
    refine AW.draw (X := ⟨_, 168, _, _⟩) (id := 15) mixed (.take 0 <| .each 1 [] (.take 2 <| .take 3 <| .take 4 <| .take 5 <| .take 6 <| .take 7 <| .take 8 <| .take 9 <| .take 10 <| .take 11 <| .take 12 <| .take 13 <| .take 14 <| .done) <| .stop) (by kernel_rfl) ?_
    simp (disch := omega) [-hset_if, -Bool.decide_and, hset_ne]
    refine good_ok g1.pt g1.rd ?_
    simp (disch := omega) [-hset_if, -Bool.decide_and, hset_ne]
    refine gif_dec (fun c1 => ?_) (fun c1 => ?_)
    · obtain ⟨k, rfl⟩ : ∃ k', k = k' + 1 := ⟨k - 1, by have := g5 c1; have := g1.at0; omega⟩
      have hnx : (stepP ts lat r ps).1.code = 0 → ts.length + 1 ≤ k + (stepP ts lat r ps).1.at' := fun h => by rw [stepP_next h]; have := g5 c1; omega
      simp (disch := omega) [-hset_if, -Bool.decide_and, hset_ne]
      refine gif_var (fun c2 => ?_) (fun c2 => ?_)
      · have hpt : ptOk ts r first = true := by simp [ptOk, c1, c2]
        rw [loopP, if_pos hpt] at g4
        simp (disch := omega) [-hset_if, -Bool.decide_and, hset_ne, g1.pt]
        refine take_ok (rp := n + 3) (hd := hd) (kv := .slice A kn c) (lat := lat) (ts := ts) (hs.frame (fun i hi => g1.fr i (hD i hi))) g1.rd (by have := g1.le; omega) (fun i hi => by have := hD i hi; omega) g1.at0.1 g1.at0.2 hb ?_
        intro n4 H4 a1 a2 a3
        have L4 := g1.step a1 a2 a3 (takeP_at g1.at0)
        have hle := L4.le
        have fr4 := a3
        have le4 := a1
        clear a1 a2 a3
        have hpos : (takeP ts lat r 1 ⟨#[]⟩).2.code = 0 → 1 ≤ (takeP ts lat r 1 ⟨#[]⟩).2.at' := takeP_pos g1.at0.1
        have hst : stepP ts lat r ps = stepP ts lat r ps := rfl
        conv at hst => rhs; unfold stepP
        generalize takeP ts lat r 1 ⟨#[]⟩ = q at L4 hpos hst ⊢
        have O4 : OwR ⟨Try.prog, w0⟩ H4 n4 E 9 1 strC v ps := g2.frame (by omega) (fun i hi => fr4 i (by have := g2.lt i hi; omega) (by have := g3 i hi; omega))
        have L5 : ∀ o, LSt tv (.slice A kn c) hd lat ts n H (n4 + 1) (hset n4 o H4) q.2 (h2P ts lat).1.text v ((h5P ts lat).1.num.tdiv 1000) := fun _ => L4.mono (by omega) (fun i hi => by simp (disch := omega) [-hset_if, -Bool.decide_and, hset_ne])
        simp (disch := omega) [-hset_if, -Bool.decide_and, hset_ne]
        refine good_ok (L5 _).pt (L5 _).rd ?_
        simp (disch := omega) [-hset_if, -Bool.decide_and, hset_ne]
        refine cif_dec (fun d1 => ?_) (fun d1 => ?_)
        · have hpo := hpos d1
          have hat := L4.at0.2
          rw [if_pos d1] at hst
          simp (disch := omega) [-hset_if, -Bool.decide_and, hset_ne]
          refine Name_ok ?_
          intro n6 H6 b1 b2
          have L6 := (L5 _).mono b1 b2
          have O6 : OwR ⟨Try.prog, w0⟩ H6 n6 E 9 1 strC v ps := O4.frame (by omega) (fun i hi => by have := O4.lt i hi; rw [b2 i (by omega)]; simp (disch := omega) [-hset_if, -Bool.decide_and, hset_ne])
          have t6 := b2 n4 (by omega)
          rw [hset_same] at t6
          clear fr4 L5 L4 O4 g1 g2
          simp (disch := omega) [-hset_if, -Bool.decide_and, hset_ne]
          refine cif_var (fun d2 => ?_) (fun d2 => ?_)
          · rw [if_pos d2] at hst
            simp (disch := omega) [-hset_if, -Bool.decide_and, hset_ne, L6.gp, O6.sl.lenK]
            refine cif_beq (fun d3 => ?_) (fun d3 => ?_)
            · rw [if_pos (by omega)] at hst
              simp (disch := omega) [-hset_if, -Bool.decide_and, hset_ne]
              refine AW.draw (X := ⟨_, 168, _, _⟩) (id := 23) mixed (.take 0 <| .take 1 <| .take 2 <| .take 3 <| .take 4 <| .take 5 <| .each 6 [] (.done) <| .stop) (by kernel_rfl) ?_
              simp (disch := omega) [-hset_if, -Bool.decide_and, hset_ne, L6.pt, L6.rd]
              refine fail_ok (rp := n + 3) (hd := hd) (kv := .slice A kn c) (lat := lat) (ts := ts) (hs.frame (fun i hi => L6.fr i (hD i hi))) L6.rd (by have := L6.le; omega) (fun _ => by omega) hb ?_
              intro n7 H7 a1 a2 a3
              have L7 := L6.step a1 a2 a3 (by rw [failP_at]; exact L6.at0)
              simp (disch := omega) [-hset_if, -Bool.decide_and, hset_ne]
              refine Next.mk ⟨k, false, failP ts lat q.2 7 (q.2.at' - 1), ps, v, E⟩ (by simp only; omega) (by simp (disch := omega) [-hset_if, -Bool.decide_and, hset_ne]) ?_
              rw [hst] at hnx g4
              exact ⟨L7, O6.frame (by omega) (fun i hi => a3 i (O6.lt i hi) (by have := g3 i hi; omega)), g3, g4, hnx, g6⟩
            · rw [if_neg (by omega)] at hst
              simp (disch := omega) [-hset_if, -Bool.decide_and, hset_ne, L6.gp, t6]
              refine containsS_ok O6.sl (by omega) ?_
              simp (disch := omega) [-hset_if, -Bool.decide_and, hset_ne]
              refine cif_var (fun d4 => ?_) (fun d4 => ?_)
              · rw [if_pos d4] at hst
                simp (disch := omega) [-hset_if, -Bool.decide_and, hset_ne]
                refine AW.draw (X := ⟨_, 168, _, _⟩) (id := 25) mixed (.take 0 <| .take 1 <| .take 2 <| .take 3 <| .take 4 <| .take 5 <| .each 6 [] (.done) <| .stop) (by kernel_rfl) ?_
                simp (disch := omega) [-hset_if, -Bool.decide_and, hset_ne, L6.pt, L6.rd]
                refine fail_ok (rp := n + 3) (hd := hd) (kv := .slice A kn c) (lat := lat) (ts := ts) (hs.frame (fun i hi => L6.fr i (hD i hi))) L6.rd (by have := L6.le; omega) (fun _ => by omega) hb ?_
                intro n7 H7 a1 a2 a3
                have L7 := L6.step a1 a2 a3 (by rw [failP_at]; exact L6.at0)
                simp (disch := omega) [-hset_if, -Bool.decide_and, hset_ne]
                refine Next.mk ⟨k, false, failP ts lat q.2 5 (q.2.at' - 1), ps, v, E⟩ (by simp only; omega) (by simp (disch := omega) [-hset_if, -Bool.decide_and, hset_ne]) ?_
                rw [hst] at hnx g4
                exact ⟨L7, O6.frame (by omega) (fun i hi => a3 i (O6.lt i hi) (by have := g3 i hi; omega)), g3, g4, hnx, g6⟩
              · rw [if_neg (by rw [d4]; exact Bool.false_ne_true)] at hst
                simp (disch := omega) [-hset_if, -Bool.decide_and, hset_ne, L6.gp, t6]
                refine O6.push elemS22 zero9 rfl q.1.text rfl rfl rfl (by omega) (by omega) ?_
                intro v2 n7 H7 D2 p1 p2 p3 p4 p5
                have L7 := L6.frame (n2 := n7) (H2 := H7) (by omega) (fun i hi => p3 i (by have := L6.le; omega) (fun h => by have := g3 i h; omega))
                have hv2 := p5.sl.cells
                simp (disch := omega) [-hset_if, -Bool.decide_and, hset_ne, L7.gp, hv2, p5.sl.one]
                refine Next.mk ⟨k, false, q.2, ps ++ [q.1.text], v2, D2⟩ (by simp only; omega) (by simp (disch := omega) [-hset_if, -Bool.decide_and, hset_ne]) ?_
                have M7 : LSt tv (.slice A kn c) hd lat ts n H n7 (hset (n + 5) (.cells [.string (h2P ts lat).1.text, v2, .int .i64 ((h5P ts lat).1.num.tdiv 1000)] 24 1) H7) q.2 (h2P ts lat).1.text v2 ((h5P ts lat).1.num.tdiv 1000) := L7.put
                have hle7 := L7.le
                have h3' : ∀ i, D2 i → n + 6 ≤ i := fun i hi => by
                  rcases p4 i hi with h | h
                  · exact g3 i h
                  · omega
                rw [hst] at hnx g4
                exact ⟨M7, p5.frame (by omega) (fun i hi => hset_ne (by have := h3' i hi; omega) _ _), h3', g4, hnx, by simp; omega⟩
          · rw [if_neg (by rw [d2]; exact Bool.false_ne_true)] at hst
            simp (disch := omega) [-hset_if, -Bool.decide_and, hset_ne]
            refine AW.draw (X := ⟨_, 168, _, _⟩) (id := 21) mixed (.take 0 <| .take 1 <| .take 2 <| .take 3 <| .take 4 <| .take 5 <| .each 6 [] (.done) <| .stop) (by kernel_rfl) ?_
            simp (disch := omega) [-hset_if, -Bool.decide_and, hset_ne, L6.pt, L6.rd]
            refine fail_ok (rp := n + 3) (hd := hd) (kv := .slice A kn c) (lat := lat) (ts := ts) (hs.frame (fun i hi => L6.fr i (hD i hi))) L6.rd (by have := L6.le; omega) (fun _ => by omega) hb ?_
            intro n7 H7 a1 a2 a3
            have L7 := L6.step a1 a2 a3 (by rw [failP_at]; exact L6.at0)
            simp (disch := omega) [-hset_if, -Bool.decide_and, hset_ne]
            refine Next.mk ⟨k, false, failP ts lat q.2 4 (q.2.at' - 1), ps, v, E⟩ (by simp only; omega) (by simp (disch := omega) [-hset_if, -Bool.decide_and, hset_ne]) ?_
            rw [hst] at hnx g4
            exact ⟨L7, O6.frame (by omega) (fun i hi => a3 i (O6.lt i hi) (by have := g3 i hi; omega)), g3, g4, hnx, g6⟩
        · rw [if_neg d1] at hst
          rw [hst] at hnx g4
          simp (disch := omega) [-hset_if, -Bool.decide_and, hset_ne]
          refine Next.mk ⟨k, false, q.2, ps, v, E⟩ (by simp only; omega) (by simp (disch := omega) [-hset_if, -Bool.decide_and, hset_ne]) ?_
          exact ⟨L5 _, O4.frame (by omega) (fun i hi => by have := O4.lt i hi; simp (disch := omega) [-hset_if, -Bool.decide_and, hset_ne]), g3, g4, hnx, g6⟩
      · simp (disch := omega) [-hset_if, -Bool.decide_and, hset_ne, g1.pt, g1.rd, g1.ln, hs.lenK]
        refine cif_dec (fun c3 => ?_) (fun c3 => ?_)
        · have hpt : ptOk ts r first = true := by simp [ptOk, c1, c3]
          rw [loopP, if_pos hpt] at g4
          simp (disch := omega) [-hset_if, -Bool.decide_and, hset_ne, g1.pt]
          refine take_ok (rp := n + 3) (hd := hd) (kv := .slice A kn c) (lat := lat) (ts := ts) (hs.frame (fun i hi => g1.fr i (hD i hi))) g1.rd (by have := g1.le; omega) (fun i hi => by have := hD i hi; omega) g1.at0.1 g1.at0.2 hb ?_
          intro n4 H4 a1 a2 a3
          have L4 := g1.step a1 a2 a3 (takeP_at g1.at0)
          have hle := L4.le
          have fr4 := a3
          have le4 := a1
          clear a1 a2 a3
          have hpos : (takeP ts lat r 1 ⟨#[]⟩).2.code = 0 → 1 ≤ (takeP ts lat r 1 ⟨#[]⟩).2.at' := takeP_pos g1.at0.1
          have hst : stepP ts lat r ps = stepP ts lat r ps := rfl
          conv at hst => rhs; unfold stepP
          generalize takeP ts lat r 1 ⟨#[]⟩ = q at L4 hpos hst ⊢
          have O4 : OwR ⟨Try.prog, w0⟩ H4 n4 E 9 1 strC v ps := g2.frame (by omega) (fun i hi => fr4 i (by have := g2.lt i hi; omega) (by have := g3 i hi; omega))
          have L5 : ∀ o, LSt tv (.slice A kn c) hd lat ts n H (n4 + 1) (hset n4 o H4) q.2 (h2P ts lat).1.text v ((h5P ts lat).1.num.tdiv 1000) := fun _ => L4.mono (by omega) (fun i hi => by simp (disch := omega) [-hset_if, -Bool.decide_and, hset_ne])
          simp (disch := omega) [-hset_if, -Bool.decide_and, hset_ne]
          refine good_ok (L5 _).pt (L5 _).rd ?_
          simp (disch := omega) [-hset_if, -Bool.decide_and, hset_ne]
          refine cif_dec (fun d1 => ?_) (fun d1 => ?_)
          · have hpo := hpos d1
            have hat := L4.at0.2
            rw [if_pos d1] at hst
            simp (disch := omega) [-hset_if, -Bool.decide_and, hset_ne]
            refine Name_ok ?_
            intro n6 H6 b1 b2
            have L6 := (L5 _).mono b1 b2
            have O6 : OwR ⟨Try.prog, w0⟩ H6 n6 E 9 1 strC v ps := O4.frame (by omega) (fun i hi => by have := O4.lt i hi; rw [b2 i (by omega)]; simp (disch := omega) [-hset_if, -Bool.decide_and, hset_ne])
            have t6 := b2 n4 (by omega)
            rw [hset_same] at t6
            clear fr4 L5 L4 O4 g1 g2
            simp (disch := omega) [-hset_if, -Bool.decide_and, hset_ne]
            refine cif_var (fun d2 => ?_) (fun d2 => ?_)
            · rw [if_pos d2] at hst
              simp (disch := omega) [-hset_if, -Bool.decide_and, hset_ne, L6.gp, O6.sl.lenK]
              refine cif_beq (fun d3 => ?_) (fun d3 => ?_)
              · rw [if_pos (by omega)] at hst
                simp (disch := omega) [-hset_if, -Bool.decide_and, hset_ne]
                refine AW.draw (X := ⟨_, 168, _, _⟩) (id := 23) mixed (.take 0 <| .take 1 <| .take 2 <| .take 3 <| .take 4 <| .take 5 <| .each 6 [] (.done) <| .stop) (by kernel_rfl) ?_
                simp (disch := omega) [-hset_if, -Bool.decide_and, hset_ne, L6.pt, L6.rd]
                refine fail_ok (rp := n + 3) (hd := hd) (kv := .slice A kn c) (lat := lat) (ts := ts) (hs.frame (fun i hi => L6.fr i (hD i hi))) L6.rd (by have := L6.le; omega) (fun _ => by omega) hb ?_
                intro n7 H7 a1 a2 a3
                have L7 := L6.step a1 a2 a3 (by rw [failP_at]; exact L6.at0)
                simp (disch := omega) [-hset_if, -Bool.decide_and, hset_ne]
                refine Next.mk ⟨k, false, failP ts lat q.2 7 (q.2.at' - 1), ps, v, E⟩ (by simp only; omega) (by simp (disch := omega) [-hset_if, -Bool.decide_and, hset_ne]) ?_
                rw [hst] at hnx g4
                exact ⟨L7, O6.frame (by omega) (fun i hi => a3 i (O6.lt i hi) (by have := g3 i hi; omega)), g3, g4, hnx, g6⟩
              · rw [if_neg (by omega)] at hst
                simp (disch := omega) [-hset_if, -Bool.decide_and, hset_ne, L6.gp, t6]
                refine containsS_ok O6.sl (by omega) ?_
                simp (disch := omega) [-hset_if, -Bool.decide_and, hset_ne]
                refine cif_var (fun d4 => ?_) (fun d4 => ?_)
                · rw [if_pos d4] at hst
                  simp (disch := omega) [-hset_if, -Bool.decide_and, hset_ne]
                  refine AW.draw (X := ⟨_, 168, _, _⟩) (id := 25) mixed (.take 0 <| .take 1 <| .take 2 <| .take 3 <| .take 4 <| .take 5 <| .each 6 [] (.done) <| .stop) (by kernel_rfl) ?_
                  simp (disch := omega) [-hset_if, -Bool.decide_and, hset_ne, L6.pt, L6.rd]
                  refine fail_ok (rp := n + 3) (hd := hd) (kv := .slice A kn c) (lat := lat) (ts := ts) (hs.frame (fun i hi => L6.fr i (hD i hi))) L6.rd (by have := L6.le; omega) (fun _ => by omega) hb ?_
                  intro n7 H7 a1 a2 a3
                  have L7 := L6.step a1 a2 a3 (by rw [failP_at]; exact L6.at0)
                  simp (disch := omega) [-hset_if, -Bool.decide_and, hset_ne]
                  refine Next.mk ⟨k, false, failP ts lat q.2 5 (q.2.at' - 1), ps, v, E⟩ (by simp only; omega) (by simp (disch := omega) [-hset_if, -Bool.decide_and, hset_ne]) ?_
                  rw [hst] at hnx g4
                  exact ⟨L7, O6.frame (by omega) (fun i hi => a3 i (O6.lt i hi) (by have := g3 i hi; omega)), g3, g4, hnx, g6⟩
                · rw [if_neg (by rw [d4]; exact Bool.false_ne_true)] at hst
                  simp (disch := omega) [-hset_if, -Bool.decide_and, hset_ne, L6.gp, t6]
                  refine O6.push elemS22 zero9 rfl q.1.text rfl rfl rfl (by omega) (by omega) ?_
                  intro v2 n7 H7 D2 p1 p2 p3 p4 p5
                  have L7 := L6.frame (n2 := n7) (H2 := H7) (by omega) (fun i hi => p3 i (by have := L6.le; omega) (fun h => by have := g3 i h; omega))
                  have hv2 := p5.sl.cells
                  simp (disch := omega) [-hset_if, -Bool.decide_and, hset_ne, L7.gp, hv2, p5.sl.one]
                  refine Next.mk ⟨k, false, q.2, ps ++ [q.1.text], v2, D2⟩ (by simp only; omega) (by simp (disch := omega) [-hset_if, -Bool.decide_and, hset_ne]) ?_
                  have M7 : LSt tv (.slice A kn c) hd lat ts n H n7 (hset (n + 5) (.cells [.string (h2P ts lat).1.text, v2, .int .i64 ((h5P ts lat).1.num.tdiv 1000)] 24 1) H7) q.2 (h2P ts lat).1.text v2 ((h5P ts lat).1.num.tdiv 1000) := L7.put
                  have hle7 := L7.le
                  have h3' : ∀ i, D2 i → n + 6 ≤ i := fun i hi => by
                    rcases p4 i hi with h | h
                    · exact g3 i h
                    · omega
                  rw [hst] at hnx g4
                  exact ⟨M7, p5.frame (by omega) (fun i hi => hset_ne (by have := h3' i hi; omega) _ _), h3', g4, hnx, by simp; omega⟩
            · rw [if_neg (by rw [d2]; exact Bool.false_ne_true)] at hst
              simp (disch := omega) [-hset_if, -Bool.decide_and, hset_ne]
              refine AW.draw (X := ⟨_, 168, _, _⟩) (id := 21) mixed (.take 0 <| .take 1 <| .take 2 <| .take 3 <| .take 4 <| .take 5 <| .each 6 [] (.done) <| .stop) (by kernel_rfl) ?_
              simp (disch := omega) [-hset_if, -Bool.decide_and, hset_ne, L6.pt, L6.rd]
              refine fail_ok (rp := n + 3) (hd := hd) (kv := .slice A kn c) (lat := lat) (ts := ts) (hs.frame (fun i hi => L6.fr i (hD i hi))) L6.rd (by have := L6.le; omega) (fun _ => by omega) hb ?_
              intro n7 H7 a1 a2 a3
              have L7 := L6.step a1 a2 a3 (by rw [failP_at]; exact L6.at0)
              simp (disch := omega) [-hset_if, -Bool.decide_and, hset_ne]
              refine Next.mk ⟨k, false, failP ts lat q.2 4 (q.2.at' - 1), ps, v, E⟩ (by simp only; omega) (by simp (disch := omega) [-hset_if, -Bool.decide_and, hset_ne]) ?_
              rw [hst] at hnx g4
              exact ⟨L7, O6.frame (by omega) (fun i hi => a3 i (O6.lt i hi) (by have := g3 i hi; omega)), g3, g4, hnx, g6⟩
          · rw [if_neg d1] at hst
            rw [hst] at hnx g4
            simp (disch := omega) [-hset_if, -Bool.decide_and, hset_ne]
            refine Next.mk ⟨k, false, q.2, ps, v, E⟩ (by simp only; omega) (by simp (disch := omega) [-hset_if, -Bool.decide_and, hset_ne]) ?_
            exact ⟨L5 _, O4.frame (by omega) (fun i hi => by have := O4.lt i hi; simp (disch := omega) [-hset_if, -Bool.decide_and, hset_ne]), g3, g4, hnx, g6⟩
        · simp (disch := omega) [-hset_if, -Bool.decide_and, hset_ne]
          refine Join.mk (v, E) (by simp (disch := omega) [-hset_if, -Bool.decide_and, hset_ne]) ?_
          rw [loopP_stop (by simp [ptOk, c1, c2, c3])] at g4
          rw [← g4]
          exact ⟨g1, g2, g3⟩
    · simp (disch := omega) [-hset_if, -Bool.decide_and, hset_ne]
      refine Join.mk (v, E) (by simp (disch := omega) [-hset_if, -Bool.decide_and, hset_ne]) ?_
      rw [loopP_stop (by simp [ptOk, c1])] at g4
      rw [← g4]
      exact ⟨g1, g2, g3⟩
  clear L2 M1
  rintro ⟨v, E⟩ n1 H1 ⟨L1, O1, gE⟩
  dsimp only at L1 O1 gE
  refine AW.cut (σ := Unit) (fun _ => REGS n) (fun _ n' H' => LSt tv (.slice A kn c) hd lat ts n H n' H' (h9P ts lat) (h2P ts lat).1.text v ((h5P ts lat).1.num.tdiv 1000) ∧ OwR ⟨Try.prog, w0⟩ H' n' E 9 1 strC v (lpP ts lat).2) ?_ ?_
  rotate_left
  · have hle := L1.le
    simp (disch := omega) [-hset_if, -Bool.decide_and, hset_ne]
    refine good_ok L1.pt L1.rd ?_
    simp (disch := omega) [-hset_if, -Bool.decide_and, hset_ne]
    refine gif_dec (fun h1 => ?_) (fun h1 => ?_)
    · simp (disch := omega) [-hset_if, -Bool.decide_and, hset_ne, L1.gp, O1.sl.lenK]
      refine cif_dec (fun h2 => ?_) (fun h2 => ?_)
      · simp (disch := omega) [-hset_if, -Bool.decide_and, hset_ne, L1.pt, L1.ln, hs.lenK]
        refine fail_ok (rp := n + 3) (hd := hd) (kv := .slice A kn c) (lat := lat) (ts := ts) (hs.frame (fun i hi => L1.fr i (hD i hi))) L1.rd (by have := L1.le; omega) (fun _ => by omega) hb ?_
        intro n4 H4 b1 b2 b3
        have M4 := L1.step b1 b2 b3 (by rw [failP_at]; exact L1.at0)
        simp (disch := omega) [-hset_if, -Bool.decide_and, hset_ne]
        refine Join.mk () (by simp (disch := omega) [-hset_if, -Bool.decide_and, hset_ne]) ?_
        rw [h9P, bad, if_pos ⟨h1, by simp; omega⟩]
        exact ⟨M4, O1.frame (by omega) (fun i hi => b3 i (O1.lt i hi) (by have := gE i hi; omega))⟩
      · simp (disch := omega) [-hset_if, -Bool.decide_and, hset_ne]
        refine Join.mk () (by simp (disch := omega) [-hset_if, -Bool.decide_and, hset_ne]) ?_
        rw [h9P, bad, if_neg (fun hc => by have := hc.2; simp at this; omega)]
        exact ⟨L1, O1⟩
    · simp (disch := omega) [-hset_if, -Bool.decide_and, hset_ne]
      refine Join.mk () (by simp (disch := omega) [-hset_if, -Bool.decide_and, hset_ne]) ?_
      rw [h9P, bad, if_neg (fun hc => h1 hc.1)]
      exact ⟨L1, O1⟩
  clear L1 O1
  rintro _ n1 H1 ⟨L1, O1⟩
  refine AW.cut (σ := Unit) (fun _ => REGS n) (fun _ n' H' => LSt tv (.slice A kn c) hd lat ts n H n' H' (h10P ts lat hd kn) (h2P ts lat).1.text v ((h5P ts lat).1.num.tdiv 1000) ∧ OwR ⟨Try.prog, w0⟩ H' n' E 9 1 strC v (lpP ts lat).2) ?_ ?_
  rotate_left
  · have hle := L1.le
    simp (disch := omega) [-hset_if, -Bool.decide_and, hset_ne, L1.ln]
    refine gif_var (fun h1 => ?_) (fun h1 => ?_)
    · simp (disch := omega) [-hset_if, -Bool.decide_and, hset_ne, L1.pt, L1.ln, hs.lenK]
      refine fail_ok (rp := n + 3) (hd := hd) (kv := .slice A kn c) (lat := lat) (ts := ts) (hs.frame (fun i hi => L1.fr i (hD i hi))) L1.rd (by have := L1.le; omega) (fun _ => by omega) hb ?_
      intro n4 H4 b1 b2 b3
      have M4 := L1.step b1 b2 b3 (by rw [failP_at]; exact L1.at0)
      simp (disch := omega) [-hset_if, -Bool.decide_and, hset_ne]
      refine Join.mk () (by simp (disch := omega) [-hset_if, -Bool.decide_and, hset_ne]) ?_
      rw [h10P, bad', if_pos (by simp [h1])]
      exact ⟨M4, O1.frame (by omega) (fun i hi => b3 i (O1.lt i hi) (by have := gE i hi; omega))⟩
    · simp (disch := omega) [-hset_if, -Bool.decide_and, hset_ne, L1.pt, L1.ln, hs.lenK]
      refine cif_dec (fun h2 => ?_) (fun h2 => ?_)
      · simp (disch := omega) [-hset_if, -Bool.decide_and, hset_ne, L1.pt, L1.ln, hs.lenK]
        refine fail_ok (rp := n + 3) (hd := hd) (kv := .slice A kn c) (lat := lat) (ts := ts) (hs.frame (fun i hi => L1.fr i (hD i hi))) L1.rd (by have := L1.le; omega) (fun _ => by omega) hb ?_
        intro n4 H4 b1 b2 b3
        have M4 := L1.step b1 b2 b3 (by rw [failP_at]; exact L1.at0)
        simp (disch := omega) [-hset_if, -Bool.decide_and, hset_ne]
        refine Join.mk () (by simp (disch := omega) [-hset_if, -Bool.decide_and, hset_ne]) ?_
        rw [h10P, bad', if_pos (by simp; omega)]
        exact ⟨M4, O1.frame (by omega) (fun i hi => b3 i (O1.lt i hi) (by have := gE i hi; omega))⟩
      · simp (disch := omega) [-hset_if, -Bool.decide_and, hset_ne]
        refine Join.mk () (by simp (disch := omega) [-hset_if, -Bool.decide_and, hset_ne]) ?_
        rw [h10P, bad', if_neg (fun hc => by have := hc; rw [h1] at this; simp at this; omega)]
        exact ⟨L1, O1⟩
  clear L1 O1
  rintro _ n1 H1 ⟨L1, O1⟩
  refine AW.ev ?_
  have hle := L1.le
  simp (disch := omega) [-hset_if, -Bool.decide_and, hset_ne]
  refine good_ok L1.pt L1.rd ?_
  simp (disch := omega) [-hset_if, -Bool.decide_and, hset_ne]
  refine cif_dec (fun h1 => ?_) (fun h1 => ?_)
  · have hv := O1.sl.cells
    simp (disch := omega) [-hset_if, -Bool.decide_and, hset_ne, L1.gp, L1.rg, L1.rf, hv, O1.sl.one]
    refine Fin_id ?_
    rw [loadP, if_pos h1] at hk
    refine hk _ _ v E (by omega) (fun i hi => by simp (disch := omega) [-hset_if, -Bool.decide_and, hset_ne, L1.fr]) (fun i hi => by have := gE i hi; omega) (O1.frame (by omega) (fun i hi => by have := gE i hi; simp (disch := omega) [-hset_if, -Bool.decide_and, hset_ne]))
  · simp (disch := omega) [-hset_if, -Bool.decide_and, hset_ne]
    refine AW.draw (X := ⟨_, 168, _, _⟩) (id := 31) mixed (.take 0 <| .take 1 <| .take 2 <| .take 3 <| .take 4 <| .each 5 [1, 2, 3, 4] (.each 6 [] (.done) <| .stop) <| .stop) (by kernel_rfl) ?_
    simp (disch := omega) [-hset_if, -Bool.decide_and, hset_ne, L1.pt, L1.rd, L1.rg, L1.rf]
    refine Fin_id ?_
    rw [loadP, if_neg h1] at hk
    refine hk _ _ _ _ (by omega) (fun i hi => by simp (disch := omega) [-hset_if, -Bool.decide_and, hset_ne, L1.fr]) (fun _ h => h.elim) (OwR.nil (by omega))
end Go.Aw.S15
