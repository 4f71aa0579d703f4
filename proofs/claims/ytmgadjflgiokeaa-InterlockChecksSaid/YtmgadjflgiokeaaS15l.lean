/-
  Chapter 15: Line.
-/
import Derived.Test.YtmgadjflgiokeaaS15k
namespace Go.Aw.S15
open Go.RowKit Go.Proofs Go.Aw.Tab
set_option linter.unusedSimpArgs false
set_option linter.unusedVariables false
set_option maxRecDepth 10000
set_option maxHeartbeats 1000000
set_option pp.deepTerms false
set_option pp.deepTerms.threshold 4
set_option pp.maxSteps 1500
attribute [local simp] Tok.cells
variable {w0 : World} {n : Nat} {H : Heap} {K : Value → Nat → Heap → Prop} {s : ByteArray}
variable {pv : Value} {ps : List ByteArray} {nm : ByteArray} {dd : Int} {D E : Nat → Prop}
def wordT (s : ByteArray) : Tok := ⟨1, s, 0, 0⟩
theorem word_ok (hk : K (.agg #[.int .i64 1, .string s, .int .i64 0, .int .i64 0]) n H) : ACall ⟨Try.prog, w0⟩ 49 [.string s] K n H := by
  refine ACall.go Try.func49 rfl Try.ntmps49 Try.results49 (by simp) fun hU hu J0 => ?_
  simp (disch := omega) [-hset_if, -Bool.decide_and, hset_ne]
  exact Fin.same hU (und_agg (by simp)) (by omega) (fun i hi => by simp (disch := omega) only [hset_ne]) hk
theorem wordR_ok (hk : K (.agg #[.int .i64 1, .string s, .int .i64 0, .int .i64 0]) n H) : ACall ⟨Try.prog, w0⟩ 50 [.string s] K n H := by
  refine ACall.go Try.func50 rfl Try.ntmps50 Try.results50 (by simp) fun hU hu J0 => ?_
  simp (disch := omega) [-hset_if, -Bool.decide_and, hset_ne]
  exact Fin.same hU (und_agg (by simp)) (by omega) (fun i hi => by simp (disch := omega) only [hset_ne]) hk
def headT (nm : ByteArray) (x : Int) : List Tok := [wordT ⟨#[103, 114, 111, 117, 112]⟩, wordT nm, wordT ⟨#[100, 101, 97, 100]⟩, ⟨2, ⟨#[]⟩, x, 0⟩, wordT ⟨#[111, 102]⟩]
def clampP (dd : Int) : Int := 1000 * mnI (mxI dd (-1)) 3601
def lineT (nm : ByteArray) (dd : Int) (ps : List ByteArray) : List Tok := headT nm (clampP dd) ++ ps.map wordT
def lineE (nm : ByteArray) (dd : Int) (ps : List ByteArray) : Int := if (loadP (lineT nm dd ps) 0 false 0).code = 0 then 0 else 1
def lineP (nm : ByteArray) (dd : Int) (ps : List ByteArray) : List Tok := if (loadP (lineT nm dd ps) 0 false 0).code = 0 then lineT nm dd ps else []
theorem lineT_num (hm : -1 ≤ mnI (mxI dd (-1)) 3601 ∧ mnI (mxI dd (-1)) 3601 ≤ 3601) : ∀ t ∈ lineT nm dd ps, int64 t.num := by
  intro t ht
  unfold lineT headT at ht
  rcases List.mem_append.mp ht with h | h
  · simp only [List.mem_cons, List.not_mem_nil, or_false] at h
    unfold int64
    rcases h with rfl | rfl | rfl | rfl | rfl <;> simp [wordT, clampP]
    omega
  · obtain ⟨x, _, rfl⟩ := List.mem_map.mp h
    simp [wordT, int64]
structure LS where
  j : Nat
  v : Value
  E : Nat → Prop
theorem Line_ok (hp : SlR ⟨Try.prog, w0⟩ H D 1 strC pv ps) (hD : ∀ i, D i → i < n) (hb : ps.length ≤ 1000)
    (hk : ∀ n' H' v E, n ≤ n' → (∀ i, i < n → H' i = H i) → (∀ i, E i → n ≤ i) → OwR ⟨Try.prog, w0⟩ H' n' E 49 4 Tok.cells v (lineP nm dd ps) → K (.tuple #[.agg #[v, .bool false, .slice none 0 0, .int .i64 0], .int .i64 (lineE nm dd ps)]) n' H') :
    ACall ⟨Try.prog, w0⟩ 22 [.agg #[.string nm, pv, .int .i64 dd]] K n H := by
  have hpc := hp.cells
  have hm : -1 ≤ mnI (mxI dd (-1)) 3601 ∧ mnI (mxI dd (-1)) 3601 ≤ 3601 := by unfold mnI mxI; split <;> split <;> omega
  refine ACall.code Try.func22 rfl Try.ntmps22 Try.results22 (by simp) fun J0 => ?_
  refine AW.step ?_
  simp (disch := omega) [-hset_if, -Bool.decide_and, hset_ne, hpc]
  refine AW.step ?_
  simp (disch := omega) [-hset_if, -Bool.decide_and, hset_ne, hpc]
  refine AW.cut (σ := Nat × Nat) (fun s => [(1, .pointer (some ⟨new n, 0, none⟩)), (2, .pointer (some ⟨new (n + 1), 0, none⟩)), (4, .func (.func 49) #[] #[]), (5, .pointer (some ⟨new s.1, 0, none⟩))])
    (fun s n' H' => n + 4 ≤ n' ∧ (∀ i, i < n → H' i = H i) ∧ H' n = .cells [.string nm, pv, .int .i64 dd] 24 1 ∧ H' (n + 1) = .cells [.slice none 0 0, .bool false, .slice none 0 0, .int .i64 0] 47 1 ∧
      H' s.1 = .cells [.slice (some ⟨new s.2, 0, none⟩) 5 5, .bool false, .slice none 0 0, .int .i64 0] 47 1 ∧ H' s.2 = .cells ((headT nm (clampP dd)).flatMap Tok.cells) 49 4 ∧ n + 2 ≤ s.1 ∧ n + 2 ≤ s.2 ∧ s.1 ≠ s.2 ∧ s.1 < n' ∧ s.2 < n') ?_ ?_
  rotate_left
  · refine AW.draw (X := ⟨_, 54, _, _⟩) (id := 2) mixed (.take 0 <| .take 2 <| .take 3 <| .take 4 <| .take 6 <| .take 8 <| .take 9 <| .take 10 <| .take 11 <| .take 12 <| .take 13 <| .take 14 <| .each 1 [2, 3, 4, 6, 8, 9, 10, 11, 12, 13, 14] (.each 5 [6, 8, 9, 10, 11, 12, 13, 14] (.each 7 [8, 9, 10, 11, 12, 13, 14] (.each 15 [8, 9, 10, 11, 12, 13] (.each 16 [] (.take 17 <| .each 18 [17] (.each 19 [] (.done) <| .stop) <| .stop) <| .each 18 [8, 9, 10, 11, 12, 13] (.each 16 [] (.take 17 <| .each 19 [] (.done) <| .stop) <| .stop) <| .stop) <| .each 18 [8, 9, 10, 11, 12, 13, 14] (.each 15 [8, 9, 10, 11, 12, 13] (.each 16 [] (.take 17 <| .each 19 [] (.done) <| .stop) <| .stop) <| .stop) <| .stop) <| .each 18 [6, 8, 9, 10, 11, 12, 13, 14] (.each 7 [8, 9, 10, 11, 12, 13, 14] (.each 15 [8, 9, 10, 11, 12, 13] (.each 16 [] (.take 17 <| .each 19 [] (.done) <| .stop) <| .stop) <| .stop) <| .stop) <| .stop) <| .each 18 [2, 3, 4, 6, 8, 9, 10, 11, 12, 13, 14] (.each 5 [6, 8, 9, 10, 11, 12, 13, 14] (.each 7 [8, 9, 10, 11, 12, 13, 14] (.each 15 [8, 9, 10, 11, 12, 13] (.each 16 [] (.take 17 <| .each 19 [] (.done) <| .stop) <| .stop) <| .stop) <| .stop) <| .stop) <| .stop) <| .each 18 [0, 2, 3, 4, 6, 8, 9, 10, 11, 12, 13, 14] (.each 1 [2, 3, 4, 6, 8, 9, 10, 11, 12, 13, 14] (.each 5 [6, 8, 9, 10, 11, 12, 13, 14] (.each 7 [8, 9, 10, 11, 12, 13, 14] (.each 15 [8, 9, 10, 11, 12, 13] (.each 16 [] (.take 17 <| .each 19 [] (.done) <| .stop) <| .stop) <| .stop) <| .stop) <| .stop) <| .stop) <| .stop) (by kernel_rfl) ?_
    simp (disch := omega) [-hset_if, -Bool.decide_and, hset_ne]
    repeat (any_goals (first | refine word_ok ?_ | refine And.intro ?_ ?_); any_goals simp (disch := omega) [-hset_if, -Bool.decide_and, hset_ne])
    all_goals first | refine Join.mk (n + 2, n + 3) ⟨rfl, rfl, rfl, rfl, trivial⟩ ?_ | refine Join.mk (n + 3, n + 2) ⟨rfl, rfl, rfl, rfl, trivial⟩ ?_
    all_goals refine ⟨?_, ?_, ?_, ?_, ?_, ?_, ?_, ?_, ?_, ?_, ?_⟩
    all_goals first | omega | (dsimp only; omega) | (intro i hi; simp (disch := omega) [-hset_if, -Bool.decide_and, hset_ne]) | simp (disch := omega) [-hset_if, -Bool.decide_and, hset_ne, headT, wordT, clampP]
  rintro ⟨c, d⟩ n1 H1 ⟨q1, q2, q3, q4, q5, q6, q7, q8, q9, q10, q11⟩
  dsimp only at q5 q6 q7 q8 q9 q10 q11
  have hp1 : SlR ⟨Try.prog, w0⟩ H1 D 1 strC pv ps := hp.frame (fun i hi => q2 i (hD i hi))
  refine AW.cut (σ := LS) (fun s => [(2, .pointer (some ⟨new (n + 1), 0, none⟩)), (5, .pointer (some ⟨new c, 0, none⟩))])
    (fun s n' H' => n1 ≤ n' ∧ (∀ i, i < n1 → i ≠ c → i ≠ d → H' i = H1 i) ∧ H' c = .cells [s.v, .bool false, .slice none 0 0, .int .i64 0] 47 1 ∧ OwR ⟨Try.prog, w0⟩ H' n' s.E 49 4 Tok.cells s.v (lineT nm dd ps) ∧ (∀ i, s.E i → i = d ∨ n1 ≤ i)) ?_ ?_
  rotate_left
  · simp (disch := omega) [-hset_if, -Bool.decide_and, hset_ne, q3, hp1.lenK]
    refine AW.while (σ := LS) (fun s => ps.length - s.j) (fun s => [(2, .pointer (some ⟨new (n + 1), 0, none⟩)), (4, .func (.func 49) #[] #[]), (5, .pointer (some ⟨new c, 0, none⟩)), (29, pv), (30, .int .i64 ps.length), (31, .int .i64 s.j)])
      (fun s n' H' => s.j ≤ ps.length ∧ n1 ≤ n' ∧ (∀ i, i < n1 → i ≠ c → i ≠ d → H' i = H1 i) ∧ H' c = .cells [s.v, .bool false, .slice none 0 0, .int .i64 0] 47 1 ∧ OwR ⟨Try.prog, w0⟩ H' n' s.E 49 4 Tok.cells s.v (headT nm (clampP dd) ++ (ps.take s.j).map wordT) ∧ (∀ i, s.E i → i = d ∨ n1 ≤ i))
      ⟨0, .slice (some ⟨new d, 0, none⟩) 5 5, (· = d)⟩ ?_ ?_ ?_
    · simp (disch := omega) [-hset_if, -Bool.decide_and, hset_ne]
    · refine ⟨by simp, by omega, fun _ _ _ _ => rfl, q5, ?_, fun i hi => .inl hi⟩
      exact OwR.lit (by omega) (by simp [headT]) q11 q6 (by simp) (by simp [headT])
    rintro ⟨j, v, E⟩ n2 H2 ⟨g1, g2, g3, g4, g5, g6⟩
    dsimp only at g1 g2 g3 g4 g5 g6
    have hp2 : SlR ⟨Try.prog, w0⟩ H2 D 1 strC pv ps := hp1.frame (fun i hi => g3 i (by have := hD i hi; omega) (by have := hD i hi; omega) (by have := hD i hi; omega))
    simp (disch := omega) [-hset_if, -Bool.decide_and, hset_ne]
    refine cif_dec (fun h => ?_) (fun h => ?_)
    · simp (disch := omega) [-hset_if, -Bool.decide_and, hset_ne, hp2.ix elemS22, hp2.load0 shp9, strC, g4]
      refine AW.draw (X := ⟨_, 54, _, _⟩) (id := 6) mixed (.take 0 <| .take 1 <| .take 2 <| .take 3 <| .each 4 [0, 1] (.each 5 [0, 1] (.each 6 [] (.take 7 <| .each 8 [] (.done) <| .stop) <| .stop) <| .stop) <| .stop) (by kernel_rfl) ?_
      simp (disch := omega) [-hset_if, -Bool.decide_and, hset_ne, g4]
      refine word_ok ?_
      simp (disch := omega) [-hset_if, -Bool.decide_and, hset_ne, g4]
      refine g5.push elemS44 zero49 rfl (wordT (at_ ps (j : Int))) rfl rfl rfl (by simp [headT]; omega) (by simp [headT]; omega) ?_
      intro v2 n3 H3 D2 p1 p2 p3 p4 p5
      have nE : ∀ i, i < n1 → i ≠ d → ¬ E i := fun i h1 h2 h => by have := g6 i h; omega
      have hD2 : ∀ i, D2 i → i = d ∨ n1 ≤ i := fun i hi => by
        rcases p4 i hi with h | h
        · exact g6 i h
        · omega
      have hc := p3 c (by omega) (nE c (by omega) (by omega))
      rw [g4] at hc
      simp (disch := omega) [-hset_if, -Bool.decide_and, hset_ne, hc, p5.sl.cells, p5.sl.one]
      refine Next.mk ⟨j + 1, v2, D2⟩ (by simp only; omega) (by simp (disch := omega) [-hset_if, -Bool.decide_and, hset_ne]) ?_
      refine ⟨by simp only; omega, by omega, fun i h1 h2 h3 => ?_, by simp (disch := omega) [-hset_if, -Bool.decide_and, hset_ne], ?_, hD2⟩
      · rw [hset_ne h2, p3 i (by omega) (nE i h1 h3)]
        exact g3 i h1 h2 h3
      · refine OwR.frame (n := n3) (H := H3) ?_ (by omega) (fun i hi => hset_ne (by have := hD2 i hi; omega) _ _)
        rw [at_nat h] at p5
        have e : (ps.take (j + 1)).map wordT = (ps.take j).map wordT ++ [wordT ps[j]] := by rw [List.take_succ_eq_append_getElem h, List.map_append]; rfl
        rw [List.append_assoc, ← e] at p5
        first | exact p5 | (rw [List.map_take] at p5; exact p5)
    · simp (disch := omega) [-hset_if, -Bool.decide_and, hset_ne]
      refine Join.mk ⟨0, v, E⟩ (by simp (disch := omega) [-hset_if, -Bool.decide_and, hset_ne]) ⟨g2, g3, g4, ?_, g6⟩
      rw [List.take_of_length_le (by omega)] at g5
      exact g5
  rintro ⟨j, v, E⟩ n2 H2 ⟨g2, g3, g4, g5, g6⟩
  dsimp only at g2 g3 g4 g5 g6
  refine AW.ev ?_
  simp (disch := omega) [-hset_if, -Bool.decide_and, hset_ne, g4, g5.sl.cells, g5.sl.one]
  refine Load_ok (A := none) (kn := 0) (c := 0) g5.sl (fun i hi => g5.lt i hi) (by simp [lineT, headT]; omega) (lineT_num hm) ?_
  intro n3 H3 u F x1 x2 x3 x4
  have hcc : H3 c = .cells [v, .bool false, .slice none 0 0, .int .i64 0] 47 1 := by rw [x2 c (by omega)]; exact g4
  have hz : H3 (n + 1) = .cells [.slice none 0 0, .bool false, .slice none 0 0, .int .i64 0] 47 1 := by rw [x2 _ (by omega), g3 _ (by omega) (by omega) (by omega)]; exact q4
  have hfr : ∀ i, i < n → H3 i = H i := fun i hi => by rw [x2 _ (by omega), g3 _ (by omega) (by omega) (by omega)]; exact q2 i hi
  simp (disch := omega) [-hset_if, -Bool.decide_and, hset_ne, loadV, x4.sl.cells, x4.sl.one]
  refine cif_bne (fun h => ?_) (fun h => ?_)
  · simp (disch := omega) [-hset_if, -Bool.decide_and, hset_ne, hcc, hz, g5.sl.cells, g5.sl.one]
    refine Fin_id ?_
    rw [lineE, lineP, if_pos h, if_pos h] at hk
    exact hk _ _ v E (by omega) (fun i hi => by simp (disch := omega) [-hset_if, -Bool.decide_and, hset_ne, hfr]) (fun i hi => by have := g6 i hi; omega) (g5.frame (by omega) (fun i hi => by have h1 := g5.lt i hi; have h2 := g6 i hi; simp (disch := omega) [-hset_if, -Bool.decide_and, hset_ne, x2]))
  · simp (disch := omega) [-hset_if, -Bool.decide_and, hset_ne, hcc, hz, g5.sl.cells, g5.sl.one]
    refine Fin_id ?_
    rw [lineE, lineP, if_neg h, if_neg h] at hk
    exact hk _ _ _ _ (by omega) (fun i hi => by simp (disch := omega) [-hset_if, -Bool.decide_and, hset_ne, hfr]) (fun _ h => h.elim) (OwR.nil (by omega))
end Go.Aw.S15
