/-
  Chapter 56: Level, copies of states.
-/
import Derived.Test.YtmppccnafhckoaaS56i
namespace Go.Aw.S56
open Go.RowKit Go.Proofs Go.Aw.Tab
set_option linter.unusedSimpArgs false
set_option linter.unusedVariables false
set_option maxRecDepth 10000
set_option maxHeartbeats 1000000
set_option pp.deepTerms false
set_option pp.deepTerms.threshold 4
set_option pp.maxSteps 1500
attribute [local simp] Load.cells Sta.cells intC Num.cells range_get
variable {w0 : World} {n : Nat} {H : Heap} {K : Value → Nat → Heap → Prop} {pv sv ov : Value} {D E F : Nat → Prop} {l : List Load} {s : List Sta} {o : List Int} {base limit now : Int}
theorem rdy_spec (h : rdy l s now = 0) : s.length = l.length ∧ instB now ∧ ∀ x ∈ s, instB x.since := by
  unfold rdy at h
  split at h
  · omega
  · rename_i h2
    simp only [not_or, Decidable.not_not, ne_eq, Bool.not_eq_false, List.all_eq_true, decide_eq_true_eq] at h2
    exact ⟨h2.1, h2.2.1, fun x hx => h2.2.2 x hx⟩
theorem chS_spec {xs : List Int} (h : chS l s now xs = 0) : chk l = 0 ∧ xs.all inB = true ∧ s.length = l.length ∧ instB now ∧ ∀ x ∈ s, instB x.since := by
  unfold chS at h
  split at h
  · omega
  · rename_i h1
    split at h
    · omega
    · rename_i h2
      exact ⟨by omega, by simpa using h2, rdy_spec h⟩
theorem inB_iff {x : Int} : inB x = true ↔ -1000000000000 ≤ x ∧ x ≤ 1000000000000 := by unfold inB; simp
/-- What cannot be shed, behind the first j. -/
def lvT (now : Int) (l : List Load) (s : List Sta) (j : Nat) : Int := lvl now (l.drop j) (s.drop j)
theorem lvT_step {j : Nat} (h1 : j < l.length) (h2 : j < s.length) : lvT now l s j = (if (at_ s (j : Int)).shed = false ∧ fre (at_ l (j : Int)) (at_ s (j : Int)) now = false then (at_ l (j : Int)).pw else 0) + lvT now l s (j + 1) := by
  unfold lvT; rw [drop_at h1, drop_at h2, lvl]
theorem lvT_end {j : Nat} (h : ¬ j < l.length) : lvT now l s j = 0 := by
  unfold lvT; rw [List.drop_of_length_le (by omega)]; rfl
theorem lvl_bound : ∀ {l : List Load} {s : List Sta}, (∀ x ∈ l, rngB x = true) → 0 ≤ lvl now l s ∧ lvl now l s ≤ 15625000000 * l.length
  | [], s, _ => by simp [lvl]
  | x :: r, [], h => by simp only [lvl, List.length_cons]; omega
  | x :: r, s :: t, h => by
    have h1 := h x (List.mem_cons_self ..)
    have h2 := lvl_bound (l := r) (s := t) (fun y hy => h y (List.mem_cons_of_mem _ hy))
    simp only [rngB, decide_eq_true_eq] at h1
    simp only [lvl, List.length_cons]
    split <;> omega
theorem lvT_bound (hR : ∀ x ∈ l, rngB x = true) (hl : l.length ≤ 64) (j : Nat) : 0 ≤ lvT now l s j ∧ lvT now l s j ≤ 1000000000000 := by
  have := lvl_bound (now := now) (l := l.drop j) (s := s.drop j) (fun x hx => hR x (List.mem_of_mem_drop hx))
  have h2 : (l.drop j).length ≤ 64 := by simp; omega
  unfold lvT; omega
theorem at_inst (hI : ∀ x ∈ s, instB x.since) {j : Nat} (h : j < s.length) : 0 ≤ (at_ s (j : Int)).since ∧ (at_ s (j : Int)).since ≤ 6311433599 := hI _ (at_mem h)
theorem at_on (hR : ∀ x ∈ l, rngB x = true) {j : Nat} (h : j < l.length) : 0 ≤ (at_ l (j : Int)).on ∧ (at_ l (j : Int)).on ≤ 86400 ∧ 0 ≤ (at_ l (j : Int)).off ∧ (at_ l (j : Int)).off ≤ 86400 := by
  have := hR _ (at_mem h)
  simp only [rngB, decide_eq_true_eq] at this
  omega
def lvV (l : List Load) (s : List Sta) (base now : Int) : Int × Int := if chS l s now [base] ≠ 0 then (0, chS l s now [base]) else (base + lvl now l s, 0)
theorem Level_ok (hb : l.length < 4611686018427387904) (hb2 : s.length < 4611686018427387904) (hs : SlR ⟨Try.prog, w0⟩ H D 5 Load.cells pv l) (hD : ∀ i, D i → i < n) (ht : SlR ⟨Try.prog, w0⟩ H E 2 Sta.cells sv s) (hE : ∀ i, E i → i < n)
    (hk : K (.tuple #[.int .i64 (lvV l s base now).1, .int .i64 (lvV l s base now).2]) n H) : ACall ⟨Try.prog, w0⟩ 27 [pv, sv, .int .i64 base, .int .i64 now] K n H := by
  refine ACall.res (fun K' hr => ?_) (und_tuple (by simp)) hk
  unfold lvV at hr
  refine ACall.run Try.func27 rfl Try.ntmps27 Try.results27 (by simp) fun J0 => ?_
  simp (disch := omega) [-hset_if, -Bool.decide_and, hset_ne]
  have hf : ∀ i, i < n → hset n (.cells [.int .i64 base] 2 1) H i = H i := fun i hi => by rw [hset_ne (by omega)]
  refine checkS_ok (xs := [base]) (F := (· = n)) (hs.frame (fun i hi => hf i (hD i hi))) (fun i hi => by have := hD i hi; omega) (ht.frame (fun i hi => hf i (hE i hi))) (fun i hi => by have := hE i hi; omega) ?_ ?_ hb hb2 (by simp) ?_
  · exact (OwR.lit (n := n + 1) (T := 2) (j := n) (by omega) (by simp) (by omega) (by simp (disch := omega) [-hset_if, -Bool.decide_and, hset_ne]) rfl (by simp)).sl
  · intro i hi; subst hi; omega
  generalize hG : hset n (.cells [.int .i64 base] 2 1) H = G at hf ⊢
  simp (disch := omega) [-hset_if, -Bool.decide_and, hset_ne]
  refine cif_bne (fun h0 => ?_) (fun h0 => ?_)
  rotate_left
  · rw [if_pos h0] at hr
    simp (disch := omega) [-hset_if, -Bool.decide_and, hset_ne]
    exact hr.fin rfl (by omega) hf
  rw [if_neg (by simp [h0])] at hr
  obtain ⟨c1, c2, c3, c4, c5⟩ := chS_spec h0
  have hl := chk_len c1
  have hR := chk_rng c1
  have hbs := inB_iff.1 (by simpa using c2 : inB base = true)
  have hbv := lvT_bound (now := now) (s := s) hR hl
  have h00 : lvT now l s 0 = lvl now l s := rfl
  obtain ⟨hn1, hn2⟩ : 0 ≤ now ∧ now ≤ 6311433599 := c4
  obtain ⟨hb3, hb4⟩ := hbs
  simp (disch := omega) [-hset_if, -Bool.decide_and, hset_ne, hs.lenK]
  refine AW.while (σ := Nat) (fun j => l.length - j) (fun j => [(1, sv), (2, .int .i64 (base + (lvT now l s 0 - lvT now l s j))), (3, .int .i64 now), (23, pv), (24, .int .i64 l.length), (25, .int .i64 j)])
    (fun j n1 H1 => n + 1 ≤ n1 ∧ (∀ i, i < n → H1 i = H i) ∧ j ≤ l.length) 0 ?_ ?_ ?_
  · simp (disch := omega) [-hset_if, -Bool.decide_and, hset_ne]
  · exact ⟨Nat.le_refl _, hf, by omega⟩
  rintro j n1 H1 ⟨g1, g2, g3⟩
  have hs1 : SlR ⟨Try.prog, w0⟩ H1 D 5 Load.cells pv l := hs.frame (fun i hi => g2 i (hD i hi))
  have ht1 : ∀ o, SlR ⟨Try.prog, w0⟩ (hset n1 o H1) E 2 Sta.cells sv s := fun o => ht.frame (fun i hi => by have := hE i hi; rw [hset_ne (by omega)]; exact g2 i this)
  simp (disch := omega) [-hset_if, -Bool.decide_and, hset_ne]
  refine cif_dec (fun h => ?_) (fun h => ?_)
  · have hjs : (j : Int) < s.length := by omega
    have hst := lvT_step (now := now) (l := l) (s := s) (j := j) (by omega) (by omega)
    have hb0 := hbv 0
    have hb1 := hbv j
    have hb2 := hbv (j + 1)
    have hld := at_rng hR (j := j) (by omega)
    have hlo := at_on hR (j := j) (by omega)
    have hsi := at_inst c5 (j := j) (by omega)
    have hl5 := fun o h1 h2 => (ht1 o).load0 shp54 (z := (j : Int)) (by omega) (by omega) h1 h2
    simp (disch := omega) [-hset_if, -Bool.decide_and, hset_ne, hs1.ix elemS22, hs1.load0 shp42, hjs, (ht1 .dead).ix elemS46, hl5]
    have hg : ∀ o o', ∀ i, i < n → hset (n1 + 1) o (hset n1 o' H1) i = H i := fun o o' i hi => by rw [hset_ne (by omega), hset_ne (by omega)]; exact g2 i hi
    refine gif_var (fun hx => ?_) (fun hx => ?_)
    · have hx : (at_ s (j : Int)).shed = false := by simpa using hx
      simp (disch := omega) [-hset_if, -Bool.decide_and, hset_ne]
      refine cif_dec (fun h2 => ?_) (fun h2 => ?_)
      · rw [if_pos ⟨hx, by rw [fre, if_neg (by simp [hx])]; exact decide_eq_false (by omega)⟩] at hst
        simp (disch := omega) [-hset_if, -Bool.decide_and, hset_ne]
        exact Next.mk (j + 1) (by first | omega | (dsimp only; omega)) (by rw [show base + (lvT now l s 0 - lvT now l s (j + 1)) = base + (lvT now l s 0 - lvT now l s j) + (at_ l (j : Int)).pw by omega]; simp (disch := omega) [-hset_if, -Bool.decide_and, hset_ne]) ⟨by omega, hg _ _, by omega⟩
      · rw [if_neg (fun e => by have := e.2; rw [fre, if_neg (by simp [hx]), decide_eq_false_iff_not] at this; omega)] at hst
        simp (disch := omega) [-hset_if, -Bool.decide_and, hset_ne]
        exact Next.mk (j + 1) (by first | omega | (dsimp only; omega)) (by rw [show lvT now l s (j + 1) = lvT now l s j by omega]; simp (disch := omega) [-hset_if, -Bool.decide_and, hset_ne]) ⟨by omega, hg _ _, by omega⟩
    · have hx : (at_ s (j : Int)).shed = true := by simpa using hx
      rw [if_neg (by simp [hx])] at hst
      simp (disch := omega) [-hset_if, -Bool.decide_and, hset_ne]
      exact Next.mk (j + 1) (by first | omega | (dsimp only; omega)) (by rw [show lvT now l s (j + 1) = lvT now l s j by omega]; simp (disch := omega) [-hset_if, -Bool.decide_and, hset_ne]) ⟨by omega, hg _ _, by omega⟩
  · have := lvT_end (now := now) (l := l) (s := s) (j := j) (by omega)
    rw [this]
    simp (disch := omega) [-hset_if, -Bool.decide_and, hset_ne]
    exact hr.fin (by first | (congr 1; done) | (simp [h00])) (by omega) g2
theorem levelR_ok (hs : SlR ⟨Try.prog, w0⟩ H D 5 Load.cells pv l) (ht : SlR ⟨Try.prog, w0⟩ H E 2 Sta.cells sv s) (hR : ∀ x ∈ l, rngB x = true) (hl : l.length ≤ 64) (hq : s.length = l.length) (hn : instB now) (hI : ∀ x ∈ s, instB x.since)
    (hbs : -1000000000000 ≤ base ∧ base ≤ 1000000000000) (hk : K (.int .i64 (base + lvl now l s)) n H) : ACall ⟨Try.prog, w0⟩ 33 [pv, sv, .int .i64 base, .int .i64 now] K n H := by
  refine ACall.res (fun K' hr => ?_) (by simp) hk
  have hbv := lvT_bound (now := now) (s := s) hR hl
  have h00 : lvT now l s 0 = lvl now l s := rfl
  obtain ⟨hb3, hb4⟩ := hbs
  refine ACall.run Try.func33 rfl Try.ntmps33 Try.results33 (by simp) fun J0 => ?_
  simp (disch := omega) [-hset_if, -Bool.decide_and, hset_ne]
  refine AW.while (σ := Nat) (fun j => l.length - j) (fun j => [(0, pv), (1, sv), (3, .int .i64 now), (9, .int .i64 (base + (lvT now l s 0 - lvT now l s j))), (10, .int .i64 j)])
    (fun j n1 H1 => n1 = n ∧ H1 = H ∧ j ≤ l.length) 0 ?_ ?_ ?_
  · simp (disch := omega) [-hset_if, -Bool.decide_and, hset_ne]
  · exact ⟨rfl, rfl, by omega⟩
  rintro j n1 H1 ⟨rfl, rfl, g3⟩
  simp (disch := omega) [-hset_if, -Bool.decide_and, hset_ne, hs.lenK]
  refine cif_dec (fun h => ?_) (fun h => ?_)
  · have hjs : (j : Int) < s.length := by omega
    have hst := lvT_step (now := now) (l := l) (s := s) (j := j) (by omega) (by omega)
    have hb0 := hbv 0
    have hb1 := hbv j
    have hb2 := hbv (j + 1)
    have hld := at_rng hR (j := j) (by omega)
    have hsi := hI _ (at_mem (l := s) (j := j) (by omega))
    simp (disch := omega) [-hset_if, -Bool.decide_and, hset_ne]
    refine AW.draw (X := ⟨_, 45, _, _⟩) (id := 5) mixed (.take 0 <| .take 1 <| .take 2 <| .take 3 <| .take 4 <| .take 5 <| .take 6 <| .take 7 <| .take 8 <| .take 9 <| .take 10 <| .take 11 <| .take 12 <| .take 13 <| .take 14 <| .take 15 <| .each 16 [] (.take 17 <| .take 18 <| .done) <| .stop) (by kernel_rfl) ?_
    simp (disch := omega) [-hset_if, -Bool.decide_and, hset_ne, hs.ix elemS22, hs.load0 shp42, hjs, ht.ix elemS44, ht.load shp4, ht.load0 shp4, ht.load0 shp53]
    refine gif_var (fun hx => ?_) (fun hx => ?_)
    · have hx : (at_ s (j : Int)).shed = false := by simpa using hx
      simp (disch := omega) [-hset_if, -Bool.decide_and, hset_ne, hs.ix elemS22, hs.load0 shp42, hjs, ht.ix elemS44, ht.load0 shp53]
      refine free_ok (at_ l (j : Int)) (at_ s (j : Int)) hn hsi ?_
      simp (disch := omega) [-hset_if, -Bool.decide_and, hset_ne]
      refine cif_var (fun h2 => ?_) (fun h2 => ?_)
      rotate_left
      · rw [if_pos ⟨hx, h2⟩] at hst
        simp (disch := omega) [-hset_if, -Bool.decide_and, hset_ne, hs.ix elemS22, hs.load shp2, hs.load0 shp2]
        exact Next.mk (j + 1) (by first | omega | (dsimp only; omega)) (by rw [show base + (lvT now l s 0 - lvT now l s (j + 1)) = base + (lvT now l s 0 - lvT now l s j) + (at_ l (j : Int)).pw by omega]; simp (disch := omega) [-hset_if, -Bool.decide_and, hset_ne]) ⟨rfl, rfl, by omega⟩
      · rw [if_neg (fun e => by rw [h2] at e; exact absurd e.2 (by simp))] at hst
        simp (disch := omega) [-hset_if, -Bool.decide_and, hset_ne]
        exact Next.mk (j + 1) (by first | omega | (dsimp only; omega)) (by rw [show lvT now l s (j + 1) = lvT now l s j by omega]; simp (disch := omega) [-hset_if, -Bool.decide_and, hset_ne]) ⟨rfl, rfl, by omega⟩
    · have hx : (at_ s (j : Int)).shed = true := by simpa using hx
      rw [if_neg (by simp [hx])] at hst
      simp (disch := omega) [-hset_if, -Bool.decide_and, hset_ne]
      exact Next.mk (j + 1) (by first | omega | (dsimp only; omega)) (by rw [show lvT now l s (j + 1) = lvT now l s j by omega]; simp (disch := omega) [-hset_if, -Bool.decide_and, hset_ne]) ⟨rfl, rfl, by omega⟩
  · have := lvT_end (now := now) (l := l) (s := s) (j := j) (by omega)
    rw [this]
    simp (disch := omega) [-hset_if, -Bool.decide_and, hset_ne]
    exact hr.fin (by first | (congr 1; done) | (simp [h00])) (by omega) (fun i hi => by simp (disch := omega) only [hset_ne])
/-- slices.Clone of Sta. -/
theorem cloneSta_ok {v : Value} {D : Nat → Prop} {xs : List Sta} (hs : SlR ⟨Try.prog, w0⟩ H D 2 Sta.cells v xs) (hD : ∀ i, D i → i < n) (hone : ∀ x ∈ xs, oneAll (Sta.cells x) = true)
    (hb : xs.length * 16 ≤ 140737488355328) (hl : xs.length ≤ 140737488355328)
    (hk : ∀ v' n' H' E, n ≤ n' → (∀ i, i < n → H' i = H i) → (∀ i, E i → n ≤ i ∧ i < n') → OwR ⟨Try.prog, w0⟩ H' n' E 54 2 Sta.cells v' xs → K v' n' H') : ACall ⟨Try.prog, w0⟩ 48 [v] K n H := by
  refine ACall.run Try.func48 rfl Try.ntmps48 Try.results48 (by simp) fun J0 => ?_
  simp (disch := omega) [-hset_if, -Bool.decide_and, hset_ne, hs.eqNil tk46]
  refine cif_var (fun hv => ?_) (fun hv => ?_)
  · obtain ⟨rfl, rfl⟩ := hs.of_nil hv
    simp (disch := omega) [-hset_if, -Bool.decide_and, hset_ne]
    refine Fin_id ?_
    exact hk _ n H (fun _ => False) (Nat.le_refl _) (fun _ _ => rfl) (fun _ h => h.elim) (OwR.nil (by omega))
  · simp (disch := omega) [-hset_if, -Bool.decide_and, hset_ne]
    have ho := OwR.empty (C := ⟨Try.prog, w0⟩) (f := Sta.cells) (T := 54) (sz := 2) (n := n + 1) (j := n) (H := hset n (.cells [] 54 2) H) (by omega) (by omega) (hset_same _ _ _)
    have hs1 : SlR ⟨Try.prog, w0⟩ (hset n (.cells [] 54 2) H) D 2 Sta.cells v xs := hs.frame (fun i hi => hset_ne (by have := hD i hi; omega) _ _)
    refine ho.appendS elemS46 zero54 (by simp) hs1 hone (by simpa using hb) (by simpa using hl) ?_
    intro v' n' H' D' h1 h2 h3 h4 h5
    simp (disch := omega) [-hset_if, -Bool.decide_and, hset_ne]
    refine Fin_id ?_
    refine hk v' n' H' D' (by omega) (fun i hi => by rw [h3 i (by omega) (by omega), hset_ne (by omega)]) (fun i hi => ⟨?_, h5.lt i hi⟩) (by simpa using h5)
    rcases h4 i hi with h | h <;> omega
theorem ours_ok {xs : List Sta} (ht : SlR ⟨Try.prog, w0⟩ H D 2 Sta.cells sv xs) (hD : ∀ i, D i → i < n) (hb : xs.length ≤ 70)
    (hk : ∀ v n' H' E, n ≤ n' → (∀ i, i < n → H' i = H i) → (∀ i, E i → n ≤ i ∧ i < n') → OwR ⟨Try.prog, w0⟩ H' n' E 54 2 Sta.cells v xs → K v n' H') : ACall ⟨Try.prog, w0⟩ 23 [sv] K n H := by
  refine ACall.run Try.func23 rfl Try.ntmps23 Try.results23 (by simp) fun J0 => ?_
  simp (disch := omega) [-hset_if, -Bool.decide_and, hset_ne]
  refine AW.while (σ := Nat × Value) (fun s => xs.length - s.1) (fun s => [(0, sv), (3, s.2), (4, .int .i64 s.1)])
    (fun s n1 H1 => n ≤ n1 ∧ (∀ i, i < n → H1 i = H i) ∧ s.1 ≤ xs.length ∧ ∃ E, (∀ i, E i → n ≤ i ∧ i < n1) ∧ OwR ⟨Try.prog, w0⟩ H1 n1 E 54 2 Sta.cells s.2 (xs.take s.1)) (0, .slice (some ⟨new n, 0, none⟩) 0 0) ?_ ?_ ?_
  · simp (disch := omega) [-hset_if, -Bool.decide_and, hset_ne]
  · exact ⟨by omega, fun i hi => by rw [hset_ne (by omega)], by simp, (· = n), fun i hi => by omega, OwR.empty (by omega) (by omega) (hset_same _ _ _)⟩
  rintro ⟨j, v⟩ n1 H1 ⟨g1, g2, g3, E, g4, g5⟩
  dsimp only at g3 g5 ⊢
  have ht1 : SlR ⟨Try.prog, w0⟩ H1 D 2 Sta.cells sv xs := ht.frame (fun i hi => g2 i (hD i hi))
  simp (disch := omega) [-hset_if, -Bool.decide_and, hset_ne, ht1.lenK]
  refine cif_dec (fun h => ?_) (fun h => ?_)
  · simp (disch := omega) [-hset_if, -Bool.decide_and, hset_ne, ht1.ix elemS44, ht1.load0 shp53]
    refine g5.push elemS46 zero54 (by simp) (at_ xs (j : Int)) rfl rfl rfl (by simp; omega) (by simp; omega) ?_
    intro v2 n2 H2 D2 b1 b2 b3 b4 b5
    simp (disch := omega) [-hset_if, -Bool.decide_and, hset_ne]
    refine Next.mk (j + 1, v2) (by first | omega | (dsimp only; omega)) (by simp (disch := omega) [-hset_if, -Bool.decide_and, hset_ne]) ⟨by omega, fun i hi => ?_, (by first | omega | (dsimp only; omega)), D2, fun i hi => ⟨?_, b5.lt i hi⟩, ?_⟩
    · rw [b3 i (by omega) (fun hd => by have := g4 i hd; omega), g2 i hi]
    · rcases b4 i hi with c | c
      · exact (g4 i c).1
      · omega
    · dsimp only
      rw [take_next (by omega)]; exact b5
  · rw [List.take_of_length_le (by omega)] at g5
    simp (disch := omega) [-hset_if, -Bool.decide_and, hset_ne]
    refine Fin_id ?_
    exact hk _ _ _ E g1 g2 g4 g5
theorem theirs_ok {xs : List Sta} (ht : SlR ⟨Try.prog, w0⟩ H D 2 Sta.cells sv xs) (hD : ∀ i, D i → i < n) (hb : xs.length ≤ 70)
    (hk : ∀ v n' H' E, n ≤ n' → (∀ i, i < n → H' i = H i) → (∀ i, E i → n ≤ i ∧ i < n') → OwR ⟨Try.prog, w0⟩ H' n' E 53 2 Sta.cells v xs → K v n' H') : ACall ⟨Try.prog, w0⟩ 31 [sv] K n H := by
  refine ACall.run Try.func31 rfl Try.ntmps31 Try.results31 (by simp) fun J0 => ?_
  simp (disch := omega) [-hset_if, -Bool.decide_and, hset_ne]
  refine AW.while (σ := Nat × Value) (fun s => xs.length - s.1) (fun s => [(0, sv), (3, s.2), (4, .int .i64 s.1)])
    (fun s n1 H1 => n ≤ n1 ∧ (∀ i, i < n → H1 i = H i) ∧ s.1 ≤ xs.length ∧ ∃ E, (∀ i, E i → n ≤ i ∧ i < n1) ∧ OwR ⟨Try.prog, w0⟩ H1 n1 E 53 2 Sta.cells s.2 (xs.take s.1)) (0, .slice (some ⟨new n, 0, none⟩) 0 0) ?_ ?_ ?_
  · simp (disch := omega) [-hset_if, -Bool.decide_and, hset_ne]
  · exact ⟨by omega, fun i hi => by rw [hset_ne (by omega)], by simp, (· = n), fun i hi => by omega, OwR.empty (by omega) (by omega) (hset_same _ _ _)⟩
  rintro ⟨j, v⟩ n1 H1 ⟨g1, g2, g3, E, g4, g5⟩
  dsimp only at g3 g5 ⊢
  have ht1 : SlR ⟨Try.prog, w0⟩ H1 D 2 Sta.cells sv xs := ht.frame (fun i hi => g2 i (hD i hi))
  simp (disch := omega) [-hset_if, -Bool.decide_and, hset_ne, ht1.lenK]
  refine cif_dec (fun h => ?_) (fun h => ?_)
  · simp (disch := omega) [-hset_if, -Bool.decide_and, hset_ne, ht1.ix elemS46, ht1.load0 shp54]
    refine g5.push elemS44 zero53 (by simp) (at_ xs (j : Int)) rfl rfl rfl (by simp; omega) (by simp; omega) ?_
    intro v2 n2 H2 D2 b1 b2 b3 b4 b5
    simp (disch := omega) [-hset_if, -Bool.decide_and, hset_ne]
    refine Next.mk (j + 1, v2) (by first | omega | (dsimp only; omega)) (by simp (disch := omega) [-hset_if, -Bool.decide_and, hset_ne]) ⟨by omega, fun i hi => ?_, (by first | omega | (dsimp only; omega)), D2, fun i hi => ⟨?_, b5.lt i hi⟩, ?_⟩
    · rw [b3 i (by omega) (fun hd => by have := g4 i hd; omega), g2 i hi]
    · rcases b4 i hi with c | c
      · exact (g4 i c).1
      · omega
    · dsimp only
      rw [take_next (by omega)]; exact b5
  · rw [List.take_of_length_le (by omega)] at g5
    simp (disch := omega) [-hset_if, -Bool.decide_and, hset_ne]
    refine Fin_id ?_
    exact hk _ _ _ E g1 g2 g4 g5
end Go.Aw.S56
