/-
  Chapter 15: InterlockUrgent, the walk.
-/
import Derived.Test.YtmgadjflgiokeaaS15z
namespace Go.Aw.S15
open Go.RowKit Go.Proofs Go.Aw.Tab
set_option linter.unusedSimpArgs false
set_option linter.unusedVariables false
set_option maxRecDepth 10000
set_option maxHeartbeats 2000000
set_option pp.deepTerms false
set_option pp.deepTerms.threshold 4
set_option pp.maxSteps 1500
variable {w0 : World} {n : Nat} {H : Heap} {K : Value → Nat → Heap → Prop}
variable {pv ov : Value} {nm : ByteArray} {ps : List ByteArray} {dead now fr who t : Int} {np : Nat}
attribute [local simp] IRow.cells intC Sta.cells
theorem mix_at {A B : List Int} {k : Nat} (hl : A.length = B.length) (h : k < B.length) : at_ (A.take k ++ B.drop k) (k : Int) = at_ B (k : Int) := by
  rw [at_nat h, at_nat (by simp; omega)]
  rw [List.getElem_append_right (by simp; omega)]
  simp [Nat.min_eq_left (show k ≤ A.length by omega)]
theorem mix_next {A B : List Int} {k : Nat} (hl : A.length = B.length) (h : k < B.length) : (A.take k ++ B.drop k).set k (at_ A (k : Int)) = A.take (k + 1) ++ B.drop (k + 1) := by
  rw [List.set_append, if_neg (by simp; omega), List.length_take, Nat.min_eq_left (by omega), Nat.sub_self, List.drop_eq_getElem_cons h, List.set_cons_zero, take_next (by omega)]
  simp
theorem mix_same {A B : List Int} {k : Nat} (hl : A.length = B.length) (h : k < B.length) (e : at_ A (k : Int) = at_ B (k : Int)) : A.take k ++ B.drop k = A.take (k + 1) ++ B.drop (k + 1) := by
  rw [take_next (by omega), drop_at h, e]; simp
def turnA (fr who : Int) (rows : List (List Int)) : List (List Int) := rows.mapIdx fun i xs => if fr ≤ (i : Int) then turnL who xs else xs
theorem turnA_len {rows : List (List Int)} : (turnA fr who rows).length = rows.length := by simp [turnA]
theorem turnA_at {rows : List (List Int)} {j : Nat} (h : j < rows.length) : at_ (turnA fr who rows) (j : Int) = if fr ≤ (j : Int) then turnL who (at_ rows (j : Int)) else at_ rows (j : Int) := by
  rw [at_nat h, at_nat (by rw [turnA_len]; exact h)]; simp [turnA]
theorem turnA_row {rows : List (List Int)} (h : rows.all (rowB np) = true) : (turnA fr who rows).all (rowB np) = true := by
  rw [List.all_eq_true] at h ⊢
  intro x hx
  obtain ⟨k, hk, rfl⟩ := List.getElem_of_mem hx
  rw [turnA_len] at hk
  have := h _ (List.getElem_mem hk)
  simp only [turnA, List.getElem_mapIdx]
  split
  · exact turnL_row this
  · exact this
structure UB where
  j : Nat
  v : Value
  E : Nat → Prop
  acc : List IRow
  F : Nat → Prop
def UInv (w0 : World) (n : Nat) (g : AObj) (nr : Nat) (T : List (List Int)) (s : UB) (n1 : Nat) (H1 : Heap) : Prop := s.j ≤ nr ∧ n + 2 ≤ n1 ∧ H1 n = g ∧ OwR ⟨Try.prog, w0⟩ H1 n1 s.E 60 1 IRow.cells s.v s.acc ∧ (∀ i, s.E i → n < i) ∧
      (∀ x ∈ s.acc, SlR ⟨Try.prog, w0⟩ H1 s.F 1 intC x.val x.xs) ∧ (∀ i, s.F i → n < i ∧ i < n1 ∧ ¬ s.E i) ∧ s.acc.map (·.xs) = T.take s.j
theorem urgent_ok {rows : List IRow} (hp : ∀ G, SlR ⟨Try.prog, w0⟩ G (fun _ => False) 1 strC pv ps) (hs : ∀ G, SlR ⟨Try.prog, w0⟩ G (fun _ => False) 1 IRow.cells ov rows) (hq : ∀ x ∈ rows, ∀ G, SlR ⟨Try.prog, w0⟩ G (fun _ => False) 1 intC x.val x.xs)
    (hk : ∀ n' H', K (.bool true) n' H') : ACall ⟨Try.prog, w0⟩ 5 [.agg #[.string nm, pv, .int .i64 dead], .int .i64 now, ov, .int .i64 fr, .int .i64 who] K n H := by
  have hpc := (hp H).cells
  have hsc := (hs H).cells
  obtain ⟨T, hT⟩ : ∃ T, T = turnA fr who (rows.map (·.xs)) := ⟨_, rfl⟩
  have hTl : T.length = rows.length := by rw [hT, turnA_len]; simp
  refine ACall.code Try.func5 rfl Try.ntmps5 Try.results5 (by simp) fun J0 => ?_
  refine AW.ev ?_
  simp (disch := omega) [-hset_if, -Bool.decide_and, hset_ne, hpc, hsc]
  refine awake_p ?_
  simp (disch := omega) [-hset_if, -Bool.decide_and, hset_ne, hpc, hsc]
  refine fits_ok (hp _) (hs _) (fun x hx => hq x hx _) (fun _ h => h.elim) (fun _ h => h.elim) ?_
  simp (disch := omega) [-hset_if, -Bool.decide_and, hset_ne]
  refine gif_var (fun c1 => ?_) (fun c1 => ?_)
  · simp at c1
    simp (disch := omega) [-hset_if, -Bool.decide_and, hset_ne]
    refine Fin_id (hk _ _)
  simp at c1
  have hf := fitsB_iff.1 c1
  obtain ⟨hf1, hf2⟩ := hf
  have hx : ∀ x ∈ rows, x.xs.length = ps.length := fun x hx => by
    have := List.all_eq_true.1 hf2 x.xs (List.mem_map_of_mem hx)
    simp [rowB] at this; exact this.1
  have hrl : rows.length ≤ 40 := by have := hf1.2.2.2.2.2; simpa using this
  simp (disch := omega) [-hset_if, -Bool.decide_and, hset_ne]
  refine gif_dec (fun c2 => ?_) (fun c2 => ?_)
  · simp (disch := omega) [-hset_if, -Bool.decide_and, hset_ne]
    refine Fin_id (hk _ _)
  simp (disch := omega) [-hset_if, -Bool.decide_and, hset_ne, (hs H).lenK, (hs _).lenK]
  refine gif_dec (fun c3 => ?_) (fun c3 => ?_)
  · simp (disch := omega) [-hset_if, -Bool.decide_and, hset_ne]
    refine Fin_id (hk _ _)
  simp (disch := omega) [-hset_if, -Bool.decide_and, hset_ne]
  refine gif_dec (fun c4 => ?_) (fun c4 => ?_)
  · simp (disch := omega) [-hset_if, -Bool.decide_and, hset_ne]
    refine Fin_id (hk _ _)
  simp (disch := omega) [-hset_if, -Bool.decide_and, hset_ne, (hp H).lenK, (hp _).lenK]
  refine cif_dec (fun c5 => ?_) (fun c5 => ?_)
  · simp (disch := omega) [-hset_if, -Bool.decide_and, hset_ne]
    refine Fin_id (hk _ _)
  simp (disch := omega) [-hset_if, -Bool.decide_and, hset_ne]
  refine AW.while (σ := UB) (fun s => rows.length - s.j) (fun s => [(1, .int .i64 now), (2, ov), (3, .int .i64 fr), (4, .int .i64 who), (5, .pointer (some ⟨new n, 0, none⟩)), (11, s.v), (12, .int .i64 s.j)])
    (UInv w0 n (.cells [.string nm, pv, .int .i64 dead] 24 1) rows.length T) ⟨0, .slice (some ⟨new (n + 1), 0, none⟩) 0 0, (· = n + 1), [], fun _ => False⟩ ?_ ?_ ?_
  · simp (disch := omega) [-hset_if, -Bool.decide_and, hset_ne]
  · exact ⟨by simp, by omega, by simp (disch := omega) [-hset_if, -Bool.decide_and, hset_ne], OwR.empty (by omega) (by omega) (by simp (disch := omega) [-hset_if, -Bool.decide_and, hset_ne]), fun i hi => by omega, by simp, fun _ h => h.elim, rfl⟩
  rintro ⟨j, v, E, acc, F⟩ n1 H1 ⟨g1, g2, g3, g4, g5, g6, g7, g8⟩
  dsimp only at g1 g2 g3 g4 g5 g6 g7 g8 ⊢
  have hal : acc.length = j := by
    have := congrArg List.length g8
    simp at this; omega
  have hvc := g4.sl.cells
  simp (disch := omega) [-hset_if, -Bool.decide_and, hset_ne, (hs H1).lenK]
  refine cif_dec (fun h => ?_) (fun h => ?_)
  · have hx1 := at_mem h
    have hxl := hx _ hx1
    have hr := hq _ hx1
    simp (disch := omega) [-hset_if, -Bool.decide_and, hset_ne, (hs H1).ix elemS58, (hs H1).load0 shp60, (hs H1).fresh0 (fun _ h => h.elim) (n := 0)]
    refine (OwR.empty (C := ⟨Try.prog, w0⟩) (n := n1 + 1) (j := n1) (sz := 1) (T := 3) (f := intC) (by omega) (by omega) (hset_same _ _ _)).appendS elemS60 zero3 rfl (hr _) (fun y _ => by simp [intC]) (by simp; omega) (by simp; omega) ?_
    intro rv n2 H2 D2 p1 p2 p3 p4 p5
    rw [List.nil_append] at p5
    have q3 : H2 n = .cells [.string nm, pv, .int .i64 dead] 24 1 := by rw [p3 n (by omega) (by omega), hset_ne (by omega)]; exact g3
    have qfr : ∀ i, i < n1 → H2 i = H1 i := fun i hi => by rw [p3 i (by omega) (by omega), hset_ne (by omega)]
    have qD : ∀ i, D2 i → n1 ≤ i := fun i hi => by have := p4 i hi; omega
    simp (disch := omega) [-hset_if, -Bool.decide_and, hset_ne]
    have hA := @turnL_len who (at_ rows (j : Int)).xs
    refine AW.while (σ := Nat) (fun k => (at_ rows (j : Int)).xs.length - k) (fun k => [(1, .int .i64 now), (2, ov), (3, .int .i64 fr), (4, .int .i64 who), (5, .pointer (some ⟨new n, 0, none⟩)), (11, v), (12, .int .i64 j), (13, rv), (14, .int .i64 k)])
      (fun k n3 H3 => n3 = n2 ∧ k ≤ (at_ rows (j : Int)).xs.length ∧ (∀ i, ¬ D2 i → H3 i = H2 i) ∧ OwR ⟨Try.prog, w0⟩ H3 n2 D2 3 1 intC rv ((turnL who (at_ rows (j : Int)).xs).take k ++ (at_ rows (j : Int)).xs.drop k) ∧ (0 < k → fr ≤ j)) 0 ?_ ?_ ?_
    · simp (disch := omega) [-hset_if, -Bool.decide_and, hset_ne]
    · exact ⟨rfl, by omega, fun _ _ => rfl, by simpa using p5, by omega⟩
    rintro k n3 H3 ⟨rfl, k1, k2, k3, k4⟩
    have hLl : ((turnL who (at_ rows (j : Int)).xs).take k ++ (at_ rows (j : Int)).xs.drop k).length = (at_ rows (j : Int)).xs.length := by simp [turnL_len]; omega
    have kl := k3.sl.lenK
    rw [hLl] at kl
    have done : ∀ (xs : List Int) (K' : Value → Nat → Heap → Prop), xs = at_ T (j : Int) → OwR ⟨Try.prog, w0⟩ H3 n3 D2 3 1 intC rv xs → (∀ v2 n' H' E2, UInv w0 n (.cells [.string nm, pv, .int .i64 dead] 24 1) rows.length T ⟨j + 1, v2, E2, acc ++ [⟨rv, xs⟩], fun i => F i ∨ D2 i⟩ n' H' → K' v2 n' H') →
      appK ⟨Try.prog, w0⟩ (hset n3 (.cells [rv] 60 1) H3) 58 (n3 + 1) v (.slice (some ⟨new n3, 0, none⟩) 1 1) K' := by
      intro xs K' hxs hO hK'
      have o1 : OwR ⟨Try.prog, w0⟩ H3 n3 E 60 1 IRow.cells v acc := g4.frame (by omega) (fun i hi => by have := g4.lt i hi; rw [k2 i (fun hD => by have := qD i hD; omega)]; exact qfr i this)
      refine o1.push elemS58 zero60 rfl ⟨rv, xs⟩ rfl rfl (by simp [oneAll, hO.sl.one]) (by omega) (by omega) ?_
      intro v2 n4 H4 E2 r1 r2 r3 r4 r5
      refine hK' v2 n4 H4 E2 ⟨(by first | omega | (dsimp only; omega)), by omega, ?_, r5, ?_, ?_, ?_, ?_⟩
      · rw [r3 n (by omega) (fun h => by have := g5 n h; omega), k2 n (fun h => by have := qD n h; omega)]; exact q3
      · intro i hi
        rcases r4 i hi with h | h
        · exact g5 i h
        · omega
      · intro x hx2
        rcases List.mem_append.1 hx2 with h | h
        · refine ((g6 x h).frame (fun i hi => ?_)).mono (fun i hi => .inl hi)
          have := g7 i hi
          rw [r3 i (by omega) this.2.2, k2 i (fun hD => by have := qD i hD; omega), qfr i this.2.1]
        · simp at h
          subst h
          refine (hO.sl.frame (fun i hi => r3 i (hO.lt i hi) (fun hE => ?_))).mono (fun i hi => .inr hi)
          have := g4.lt i hE
          have := qD i hi
          omega
      · intro i hi
        rcases hi with hi | hi
        · have := g7 i hi
          refine ⟨this.1, by omega, fun hE => ?_⟩
          rcases r4 i hE with h | h
          · exact this.2.2 h
          · omega
        · have h1 := hO.lt i hi
          have h2 := qD i hi
          refine ⟨by omega, by omega, fun hE => ?_⟩
          rcases r4 i hE with h | h
          · have := g4.lt i h; omega
          · omega
      · simp only [List.map_append, List.map_cons, List.map_nil, g8, hxs]
        exact (take_next (by omega)).symm
    have hxc := k3.sl.cells
    simp (disch := omega) [-hset_if, -Bool.decide_and, hset_ne, kl]
    refine gif_dec (fun d1 => ?_) (fun d1 => ?_)
    · have e1 := mix_at hA d1
      simp (disch := omega) [-hset_if, -Bool.decide_and, hset_ne]
      refine cif_dec (fun d2 => ?_) (fun d2 => ?_)
      · have e2 := turnL_at (who := who) d1
        simp (disch := omega) [-hset_if, -Bool.decide_and, hset_ne, k3.sl.ix elemS60, k3.sl.load0 shp3]
        refine cif_beq (fun d3 => ?_) (fun d3 => ?_)
        · simp (disch := omega) [-hset_if, -Bool.decide_and, hset_ne, k3.sl.ix elemS60]
          refine k3.store0 shp3 (by omega) (by omega) 3 rfl rfl rfl ?_
          intro H4 x1 k5
          simp (disch := omega) [-hset_if, -Bool.decide_and, hset_ne]
          refine cif_beq (fun d4 => ?_) (fun d4 => ?_)
          · obtain ⟨L2, hL2⟩ : ∃ L2, L2 = ((turnL who (at_ rows (j : Int)).xs).take k ++ (at_ rows (j : Int)).xs.drop k).set (k : Int).toNat 3 := ⟨_, rfl⟩
            rw [← hL2] at k5
            have h5l : L2.length = (at_ rows (j : Int)).xs.length := by rw [hL2, List.length_set, hLl]
            simp (disch := omega) [-hset_if, -Bool.decide_and, hset_ne, k5.sl.ix elemS60]
            refine k5.store0 (u := .int .i64 1) shp3 (z := (k : Int)) (by omega) (by omega) 1 rfl rfl rfl ?_
            intro H5 x2 k6
            rw [hL2] at k6
            simp (disch := omega) [-hset_if, -Bool.decide_and, hset_ne]
            refine Next.mk (k + 1) (by first | omega | (dsimp only; omega)) (by simp (disch := omega) [-hset_if, -Bool.decide_and, hset_ne]) ⟨rfl, by omega, fun i h' => by rw [x2 _ h', x1 _ h']; exact k2 i h', ?_, fun _ => d2⟩
            rw [← mix_next hA d1, e2]
            rw [e1] at d3
            have h7 := k6
            simp only [Int.toNat_natCast, List.set_set] at h7
            have h8 : turnR who k (at_ (at_ rows (j : Int)).xs (k : Int)) = (if (k : Int) = who then 1 else 3) := by
              unfold turnR; grind
            first | (rw [if_pos d4] at h8; rw [h8]; exact h7) | (rw [if_neg d4] at h8; rw [h8]; exact h7)
          · simp (disch := omega) [-hset_if, -Bool.decide_and, hset_ne]
            refine Next.mk (k + 1) (by first | omega | (dsimp only; omega)) (by simp (disch := omega) [-hset_if, -Bool.decide_and, hset_ne]) ⟨rfl, by omega, fun i h' => by rw [x1 _ h']; exact k2 i h', ?_, fun _ => d2⟩
            rw [← mix_next hA d1, e2]
            rw [e1] at d3
            have h7 := k5
            simp only [Int.toNat_natCast, List.set_set] at h7
            have h8 : turnR who k (at_ (at_ rows (j : Int)).xs (k : Int)) = (if (k : Int) = who then 1 else 3) := by
              unfold turnR; grind
            first | (rw [if_pos d4] at h8; rw [h8]; exact h7) | (rw [if_neg d4] at h8; rw [h8]; exact h7)
        · simp (disch := omega) [-hset_if, -Bool.decide_and, hset_ne]
          refine cif_beq (fun d4 => ?_) (fun d4 => ?_)
          · simp (disch := omega) [-hset_if, -Bool.decide_and, hset_ne, k3.sl.ix elemS60]
            refine k3.store0 shp3 (by omega) (by omega) 1 rfl rfl rfl ?_
            intro H5 x2 k6
            simp (disch := omega) [-hset_if, -Bool.decide_and, hset_ne]
            refine Next.mk (k + 1) (by first | omega | (dsimp only; omega)) (by simp (disch := omega) [-hset_if, -Bool.decide_and, hset_ne]) ⟨rfl, by omega, fun i h' => by rw [x2 _ h']; exact k2 i h', ?_, fun _ => d2⟩
            rw [← mix_next hA d1, e2]
            rw [e1] at d3
            have h7 := k6
            simp only [Int.toNat_natCast, List.set_set] at h7
            have h8 : turnR who k (at_ (at_ rows (j : Int)).xs (k : Int)) = (if (k : Int) = who then 1 else 3) := by
              unfold turnR; grind
            first | (rw [if_pos d4] at h8; rw [h8]; exact h7) | (rw [if_neg d4] at h8; rw [h8]; exact h7)
          · simp (disch := omega) [-hset_if, -Bool.decide_and, hset_ne]
            refine Next.mk (k + 1) (by first | omega | (dsimp only; omega)) (by simp (disch := omega) [-hset_if, -Bool.decide_and, hset_ne]) ⟨rfl, by omega, k2, ?_, fun _ => d2⟩
            rw [← mix_same hA d1 (by rw [e2, turnR]; rw [e1] at d3; grind)]
            exact k3
      · have hk0 : k = 0 := by
          by_cases h0 : 0 < k
          · have := k4 h0; omega
          · omega
        subst hk0
        simp (disch := omega) [-hset_if, -Bool.decide_and, hset_ne, hxc, k3.sl.one]
        refine done (at_ rows (j : Int)).xs _ (by rw [hT, turnA_at (by simpa using h), if_neg d2, at_map h]) (by simpa using k3) ?_
        intro v2 n4 H4 E2 hI
        simp (disch := omega) [-hset_if, -Bool.decide_and, hset_ne]
        exact Next.mk ⟨j + 1, v2, E2, acc ++ [⟨rv, (at_ rows (j : Int)).xs⟩], fun i => F i ∨ D2 i⟩ (by first | omega | (dsimp only; omega)) (by simp (disch := omega) [-hset_if, -Bool.decide_and, hset_ne]) hI
    · simp (disch := omega) [-hset_if, -Bool.decide_and, hset_ne, hxc, k3.sl.one]
      by_cases d2 : fr ≤ (j : Int)
      · refine done (turnL who (at_ rows (j : Int)).xs) _ (by rw [hT, turnA_at (by simpa using h), if_pos d2, at_map h]) (by rw [List.take_of_length_le (by omega), List.drop_of_length_le (by omega), List.append_nil] at k3; exact k3) ?_
        intro v2 n4 H4 E2 hI
        simp (disch := omega) [-hset_if, -Bool.decide_and, hset_ne]
        exact Next.mk ⟨j + 1, v2, E2, acc ++ [⟨rv, turnL who (at_ rows (j : Int)).xs⟩], fun i => F i ∨ D2 i⟩ (by first | omega | (dsimp only; omega)) (by simp (disch := omega) [-hset_if, -Bool.decide_and, hset_ne]) hI
      · have hk0 : k = 0 := by
          by_cases h0 : 0 < k
          · have := k4 h0; omega
          · omega
        subst hk0
        refine done (at_ rows (j : Int)).xs _ (by rw [hT, turnA_at (by simpa using h), if_neg d2, at_map h]) (by simpa using k3) ?_
        intro v2 n4 H4 E2 hI
        simp (disch := omega) [-hset_if, -Bool.decide_and, hset_ne]
        exact Next.mk ⟨j + 1, v2, E2, acc ++ [⟨rv, (at_ rows (j : Int)).xs⟩], fun i => F i ∨ D2 i⟩ (by first | omega | (dsimp only; omega)) (by simp (disch := omega) [-hset_if, -Bool.decide_and, hset_ne]) hI
  · obtain rfl : j = rows.length := by omega
    rw [List.take_of_length_le (by omega)] at g8
    simp (disch := omega) [-hset_if, -Bool.decide_and, hset_ne, g3, hpc, hvc]
    have hg0 : Good ps.length now 0 ⟨-1, now⟩ := ⟨by simp, by simp only; omega, by simp only; omega, by simp⟩
    have hTr : T.all (rowB ps.length) = true := by rw [hT]; exact turnA_row hf2
    obtain ⟨l, hl⟩ := runS_some (np := ps.length) (dead := dead) (now := now) (by omega) (by omega) ⟨by omega, by omega⟩ T 0 ⟨-1, now⟩ hg0 (by omega) hTr
    obtain ⟨e1, e2⟩ := runS_at (by omega) _ 0 ⟨-1, now⟩ l hg0 hTr hl
    have hax : ∀ x ∈ acc, x.xs.length ≤ 1000000 := fun x hx => by
      have : x.xs ∈ T := by rw [← g8]; exact List.mem_map_of_mem hx
      have := List.all_eq_true.1 hTr _ this
      simp [rowB] at this
      omega
    refine runG_ok (D := fun i => E i ∨ F i) (hp _) (g4.sl.mono (fun i hi => .inl hi)) (fun x hx => (g6 x hx).mono (fun i hi => .inr hi)) (fun i hi => hi.elim (fun h => g4.lt i h) (fun h => (g7 i h).2.1)) (fun _ h => h.elim) (by omega) (by omega) (by omega) hax ?_
    rw [g8, hl]
    intro n2 H2 lv F2 a1 a2 a3 a4 a5
    have O := a4 l rfl
    have q3 : H2 n = .cells [.string nm, pv, .int .i64 dead] 24 1 := by rw [a2 n (by omega)]; exact g3
    obtain ⟨f, rfl⟩ := Int.eq_ofNat_of_zero_le (show 0 ≤ fr by omega)
    have hU := urg_all (T := T) (l := l) (f := f) (dead := dead) (who := who) (now := now) (np := ps.length) (s0 := ⟨-1, now⟩) (by omega) (by omega) (fun j hj => by
      have := e2 j hj
      exact ⟨by simpa using this.2.1, by simpa using this.2.2⟩) (fun j h1 h2 => ⟨at_ (rows.map (·.xs)) (j : Int), by rw [hT, turnA_at (by simp; omega), if_pos (by omega)], by rw [at_map (by omega)]; exact hx _ (at_mem (by omega))⟩)
    clear a4 a5
    have hlc := O.sl.cells
    simp (disch := omega) [-hset_if, -Bool.decide_and, hset_ne]
    refine AW.while (σ := Nat) (fun i => l.length - i) (fun i => [(1, .int .i64 now), (3, .int .i64 f), (4, .int .i64 who), (5, .pointer (some ⟨new n, 0, none⟩)), (15, lv), (17, .int .i64 i)])
      (fun i n3 H3 => n3 = n2 ∧ H3 = H2 ∧ f ≤ i) f ?_ ?_ ?_
    · simp (disch := omega) [-hset_if, -Bool.decide_and, hset_ne]
    · exact ⟨rfl, rfl, by omega⟩
    rintro i n3 H3 ⟨rfl, rfl, b1⟩
    simp (disch := omega) [-hset_if, -Bool.decide_and, hset_ne, O.sl.lenK]
    refine cif_dec (fun b2 => ?_) (fun b2 => ?_)
    · have hu := hU i b1 b2
      have hm : mxI 1 dead ≤ dead + 1 ∧ dead ≤ mxI 1 dead ∧ 1 ≤ mxI 1 dead := by unfold mxI; split <;> omega
      have hll : l.length ≤ 40 := by omega
      clear e2 hU hl hg0 hTr hT hf2 c1 e1
      simp (disch := omega) [-hset_if, -Bool.decide_and, hset_ne, O.sl.ix elemS61, O.sl.load shp3, O.sl.load0 shp3, q3]
      repeat' (first | (with_reducible intro _; first | (exfalso; omega) | (simp (disch := omega) [-hset_if, -Bool.decide_and, hset_ne, O.sl.ix elemS61, O.sl.load shp3, O.sl.load0 shp3, q3]) | skip) | with_reducible apply cif_dec | with_reducible apply cif_beq | with_reducible apply cif_bne | with_reducible apply cif_var | with_reducible apply gif_dec | with_reducible apply gif_ndec | with_reducible apply gif_beq | with_reducible apply gif_bne | with_reducible apply gif_nbeq | with_reducible apply gif_var)
      all_goals clear O q3 hax hx g3 g4 g6 g7 hs hp hq
      all_goals first | (refine Next.mk (i + 1) (by first | omega | (dsimp only; omega)) (by simp (disch := omega) [-hset_if, -Bool.decide_and, hset_ne]) ⟨rfl, rfl, by omega⟩) | (exfalso; unfold Urg at hu; grind)
    · simp (disch := omega) [-hset_if, -Bool.decide_and, hset_ne]
      refine Fin_id (hk _ _)
end Go.Aw.S15
