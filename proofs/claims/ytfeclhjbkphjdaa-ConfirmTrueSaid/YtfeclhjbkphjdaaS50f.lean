/-
  Chapter 50: the reference's server finishes a request.
-/
import Derived.Test.YtfeclhjbkphjdaaS50e
namespace Go.Aw.S50
open Go.RowKit Go.Proofs Go.Aw.Tab
set_option linter.unusedSimpArgs false
set_option linter.unusedVariables false
set_option maxRecDepth 10000
set_option maxHeartbeats 2000000
set_option pp.deepTerms false
set_option pp.deepTerms.threshold 4
set_option pp.maxSteps 1500
attribute [local simp] Ans.cells Ask.cells Opn.cells entC flC rsC
variable {w0 : World} {n : Nat} {H : Heap} {K : Value → Nat → Heap → Prop}
/-- The index of the least answer of a client among the first ones, and how many it has. -/
def scanR (L : List (Int × Ans)) (c : Int) : Nat → Int × Int
  | 0 => (-1, 0)
  | j + 1 => if (at_ L (j : Int)).1 ≠ c then scanR L c j else
      (if (scanR L c j).1 < 0 ∨ (at_ L (j : Int)).2.inv < (at_ L (scanR L c j).1).2.inv then (j : Int) else (scanR L c j).1, (scanR L c j).2 + 1)
theorem scanR_lt (L : List (Int × Ans)) (c : Int) : ∀ j : Nat, -1 ≤ (scanR L c j).1 ∧ (scanR L c j).1 < j ∧ 0 ≤ (scanR L c j).2 ∧ (scanR L c j).2 ≤ j ∧ (0 < (scanR L c j).2 → 0 ≤ (scanR L c j).1)
  | 0 => by simp [scanR]
  | j + 1 => by
    obtain ⟨h1, h2, h3, h4, h5⟩ := scanR_lt L c j
    simp only [scanR]
    split
    · exact ⟨h1, by omega, h3, by omega, h5⟩
    · dsimp only
      split <;> exact ⟨by omega, by omega, by omega, by omega, by omega⟩
def rA (r : RSv) (code : Int) (data : ByteArray) : Ans := ⟨r.boot, r.now.inv, code, data⟩
def rL (r : RSv) (code : Int) (data : ByteArray) : List (Int × Ans) := r.ans ++ [(r.client, rA r code data)]
def rS (r : RSv) (code : Int) (data : ByteArray) : Int × Int := scanR (rL r code data) r.client (rL r code data).length
def rBase (r : RSv) (code : Int) (data : ByteArray) : RSv := { r with busy := false, done := r.done + 1, ans := rL r code data }
def rCut (r : RSv) (code : Int) (data : ByteArray) : RSv :=
  { r with busy := false, done := r.done + 1, floors := r.floors ++ [(r.client, (at_ (rL r code data) (rS r code data).1).2.inv)], ans := (rL r code data).take (rS r code data).1.toNat ++ (rL r code data).drop ((rS r code data).1.toNat + 1) }
/-- Rule 5, as the reference has it. -/
def rFinP (r : RSv) (code : Int) (data : ByteArray) : (Ans × Int) × RSv :=
  if r.busy = false then ((default, 8), r)
  else if 400 < data.size ∨ code = 15 then ((default, 1), r)
  else ((rA r code data, 0), if r.limit < (rS r code data).2 then rCut r code data else rBase r code data)
theorem RFinish_ok {T : Nat} {D E F : Nat → Prop} {r : RSv} {v u : Value} {code : Int} {data : ByteArray} (h : RsR H w0 n T D r v u E F) (hl : r.ans.length < 1000) (hl2 : r.floors.length < 1000) (hd : 0 ≤ r.done ∧ r.done < 1000) (hlim : 0 ≤ r.limit)
    (hk : ∀ n' H' D' v' u' E' F', n ≤ n' → (∀ i, i < n → ¬ D i → H' i = H i) → (∀ i, D' i → D i ∨ n ≤ i) → RsR H' w0 n' T D' (rFinP r code data).2 v' u' E' F' → K (fnV (rFinP r code data).1) n' H') :
    ACall ⟨Try.prog, w0⟩ 16 [.pointer (some ⟨new T, 0, none⟩), .int .i64 code, .string data] K n H := by
  have hself := h.self
  have hTn := h.lt
  have hEn := h.ans.lt
  have hFn := h.floors.lt
  have hTT := (h.d T).2 (.inl rfl)
  unfold rFinP at hk
  refine ACall.run Try.func16 rfl Try.ntmps16 Try.results16 (by simp) fun J0 => ?_
  simp (disch := omega) [-hset_if, -Bool.decide_and, hset_ne, hself]
  refine cif_var (fun b1 => ?_) (fun b1 => ?_)
  rotate_left
  · rw [if_pos b1] at hk
    simp (disch := omega) [-hset_if, -Bool.decide_and, hset_ne]
    refine Fin_id ?_
    exact hk _ _ D v u E F (by omega) (fun i hi _ => by simp (disch := omega) only [hset_ne]) (fun i h => .inl h) (h.frame (by omega) (fun i hi => by have := h.dlt hi; simp (disch := omega) only [hset_ne]))
  rw [if_neg (by simp [b1])] at hk
  simp (disch := omega) [-hset_if, -Bool.decide_and, hset_ne]
  refine gif_dec (fun b2 => ?_) (fun b2 => ?_)
  · rw [if_pos (.inl (by omega))] at hk
    simp (disch := omega) [-hset_if, -Bool.decide_and, hset_ne]
    refine Fin_id ?_
    exact hk _ _ D v u E F (by omega) (fun i hi _ => by simp (disch := omega) only [hset_ne]) (fun i h => .inl h) (h.frame (by omega) (fun i hi => by have := h.dlt hi; simp (disch := omega) only [hset_ne]))
  simp (disch := omega) [-hset_if, -Bool.decide_and, hset_ne]
  refine cif_beq (fun b3 => ?_) (fun b3 => ?_)
  · rw [if_pos (.inr b3)] at hk
    simp (disch := omega) [-hset_if, -Bool.decide_and, hset_ne]
    refine Fin_id ?_
    exact hk _ _ D v u E F (by omega) (fun i hi _ => by simp (disch := omega) only [hset_ne]) (fun i h => .inl h) (h.frame (by omega) (fun i hi => by have := h.dlt hi; simp (disch := omega) only [hset_ne]))
  rw [if_neg (by omega)] at hk
  simp (disch := omega) [-hset_if, -Bool.decide_and, hset_ne]
  refine AW.draw (X := ⟨_, 160, _, _⟩) (id := 5) mixed (.take 0 <| .take 1 <| .take 2 <| .take 3 <| .take 4 <| .take 5 <| .take 6 <| .take 7 <| .take 8 <| .take 9 <| .take 10 <| .take 11 <| .each 12 [0, 1, 2, 3, 4, 5, 6, 7, 8, 9, 10, 11] (.each 13 [] (.done) <| .stop) <| .stop) (by kernel_rfl) ?_
  simp (disch := omega) [-hset_if, -Bool.decide_and, hset_ne, hself]
  refine AW.draw (X := ⟨_, 160, _, _⟩) (id := 8) mixed (.take 0 <| .take 1 <| .take 2 <| .take 3 <| .take 4 <| .take 5 <| .take 6 <| .take 7 <| .take 8 <| .take 9 <| .take 10 <| .each 11 [0, 1, 2, 3, 4] (.each 12 [0] (.take 13 <| .take 14 <| .each 15 [] (.done) <| .stop) <| .stop) <| .stop) (by kernel_rfl) ?_
  simp (disch := omega) [-hset_if, -Bool.decide_and, hset_ne, hself]
  generalize hH0 : hset T (.cells [.int .i64 r.boot, .int .i64 r.limit, v, u, .bool false, .int .i64 r.client, .int .i64 r.now.boot, .int .i64 r.now.inv, .string r.now.data, .int .i64 (r.done + 1)] 46 1) (hset (n + 1) (.cells [.int .i64 r.boot, .int .i64 r.now.inv, .int .i64 code, .string data] 33 1) (hset n (.cells [.int .i64 0, .int .i64 0, .int .i64 0, .string ⟨#[]⟩] 33 1) H)) = H0
  have hR0 : H0 n = .cells [.int .i64 0, .int .i64 0, .int .i64 0, .string ⟨#[]⟩] 33 1 := by rw [← hH0, hset_ne (by omega), hset_ne (by omega), hset_same]
  have hA0 : H0 (n + 1) = .cells (rA r code data).cells 33 1 := by rw [← hH0, hset_ne (by omega), hset_same]; rfl
  have hT0 : H0 T = .cells (rsC { r with busy := false, done := r.done + 1 } v u) 46 1 := by rw [← hH0, hset_same]; rfl
  have hfr0 : ∀ i, i < n → i ≠ T → H0 i = H i := fun i hi hT => by rw [← hH0]; simp (disch := omega) only [hset_ne]
  have ha0 : OwR ⟨Try.prog, w0⟩ H0 (n + 2) E 96 5 entC v r.ans := h.ans.frame (by omega) (fun i hi => hfr0 i (hEn i hi) (fun y => h.tE (y ▸ hi)))
  have hf0 : OwR ⟨Try.prog, w0⟩ H0 (n + 2) F 99 2 flC u r.floors := h.floors.frame (by omega) (fun i hi => hfr0 i (hFn i hi) (fun y => h.tF (y ▸ hi)))
  refine ha0.push elemS43 zero96 (by simp) (r.client, rA r code data) rfl rfl rfl (by omega) (by omega) ?_
  intro v1 n1 H1 E1 q1 q2 q3 q4 q5
  have hEno : ∀ i, n ≤ i → ¬ E i := fun i hi he => by have := hEn i he; omega
  have hT1 := q3 T (by omega) h.tE
  rw [hT0] at hT1
  have hR1 := q3 n (by omega) (hEno n (by omega))
  rw [hR0] at hR1
  have hA1 := q3 (n + 1) (by omega) (hEno _ (by omega))
  rw [hA0] at hA1
  have hf1 : OwR ⟨Try.prog, w0⟩ H1 n1 F 99 2 flC u r.floors := hf0.frame (by omega) (fun i hi => q3 i (by have := hFn i hi; omega) (fun y => h.ef i y hi))
  have hE1 : ∀ i, E1 i → (E i ∨ n + 2 < i) ∧ i ≠ T ∧ ¬ F i ∧ i ≠ n ∧ i ≠ n + 1 := fun i hi => by
    rcases q4 i hi with v | v
    · have := hEn i v
      exact ⟨.inl v, fun y => h.tE (y ▸ v), h.ef i v, by omega, by omega⟩
    · exact ⟨.inr v, by omega, fun y => by have := hFn i y; omega, by omega, by omega⟩
  have hTE1 : ¬ E1 T := fun y => (hE1 T y).2.1 rfl
  simp (disch := omega) [-hset_if, -Bool.decide_and, hset_ne, hT1, q5.sl.cells, q5.sl.one]
  have hL : r.ans ++ [(r.client, rA r code data)] = rL r code data := rfl
  rw [hL] at q5
  have hLl : (rL r code data).length < 1001 := by simp [rL]; omega
  generalize hH2 : hset T _ H1 = H2
  have hT2 : H2 T = .cells (rsC (rBase r code data) v1 u) 46 1 := by rw [← hH2, hset_same]; rfl
  have hfr2 : ∀ i, i ≠ T → H2 i = H1 i := fun i hi => by rw [← hH2, hset_ne hi]
  have ha2 : OwR ⟨Try.prog, w0⟩ H2 n1 E1 96 5 entC v1 (rL r code data) := q5.frame (Nat.le_refl _) (fun i hi => hfr2 i (fun y => hTE1 (y ▸ hi)))
  have hf2 : OwR ⟨Try.prog, w0⟩ H2 n1 F 99 2 flC u r.floors := hf1.frame (Nat.le_refl _) (fun i hi => hfr2 i (fun y => h.tF (y ▸ hi)))
  have hR2 : H2 n = .cells [.int .i64 0, .int .i64 0, .int .i64 0, .string ⟨#[]⟩] 33 1 := by rw [hfr2 n (by omega)]; exact hR1
  have hA2 : H2 (n + 1) = .cells (rA r code data).cells 33 1 := by rw [hfr2 _ (by omega)]; exact hA1
  have hb : RsR H2 w0 n1 T (fun i => i = T ∨ E1 i ∨ F i) (rBase r code data) v1 u E1 F := ⟨hT2, ha2, hf2, hTE1, h.tF, fun i hi => (hE1 i hi).2.2.1, by omega, fun i => Iff.rfl⟩
  have hs2 := ha2.sl
  have hfrD : ∀ i, i < n → ¬ D i → H2 i = H i := fun i hi hD => by
    have hiT : i ≠ T := fun y => hD (y ▸ hTT)
    rw [hfr2 i hiT, q3 i (by omega) (fun y => hD ((h.d i).2 (.inr (.inl y)))), hfr0 i hi hiT]
  have hT2' : H2 T = .cells [.int .i64 r.boot, .int .i64 r.limit, v1, u, .bool false, .int .i64 r.client, .int .i64 r.now.boot, .int .i64 r.now.inv, .string r.now.data, .int .i64 (r.done + 1)] 46 1 := hT2
  refine AW.while (σ := Nat) (fun j => (rL r code data).length - j) (fun j => [(0, .pointer (some ⟨new T, 0, none⟩)), (6, .pointer (some ⟨new n, 0, none⟩)), (8, .pointer (some ⟨new (n + 1), 0, none⟩)), (9, .int .i64 (scanR (rL r code data) r.client j).1), (10, .int .i64 (scanR (rL r code data) r.client j).2), (11, .int .i64 (j : Int))])
    (fun j n1' H1' => n1 = n1' ∧ H2 = H1' ∧ j ≤ (rL r code data).length) 0 ?_ ?_ ?_
  · simp (disch := omega) [-hset_if, -Bool.decide_and, hset_ne, scanR]
  · exact ⟨rfl, rfl, by omega⟩
  rintro j _ _ ⟨rfl, rfl, g1⟩
  obtain ⟨k1, k2, k3, k4, k5⟩ := scanR_lt (rL r code data) r.client j
  simp (disch := omega) [-hset_if, -Bool.decide_and, hset_ne, hT2', hs2.lenK]
  refine cif_dec (fun b4 => ?_) (fun b4 => ?_)
  · refine AW.draw (X := ⟨_, 160, _, _⟩) (id := 14) mixed (.take 0 <| .take 1 <| .take 2 <| .take 3 <| .take 4 <| .take 5 <| .take 6 <| .take 7 <| .take 8 <| .take 9 <| .take 10 <| .take 11 <| .take 12 <| .done) (by kernel_rfl) ?_
    simp (disch := omega) [-hset_if, -Bool.decide_and, hset_ne, hT2', hs2.ix elemS43, hs2.load shp3, hs2.load0 shp3, Addr.add_add]
    refine cif_bne (fun b5 => ?_) (fun b5 => ?_)
    · have e1 : scanR (rL r code data) r.client (j + 1) = (if (scanR (rL r code data) r.client j).1 < 0 ∨ (at_ (rL r code data) (j : Int)).2.inv < (at_ (rL r code data) (scanR (rL r code data) r.client j).1).2.inv then (j : Int) else (scanR (rL r code data) r.client j).1, (scanR (rL r code data) r.client j).2 + 1) := by
        rw [scanR, if_neg (by omega)]
      simp (disch := omega) [-hset_if, -Bool.decide_and, hset_ne]
      refine AW.draw (X := ⟨_, 160, _, _⟩) (id := 16) mixed (.take 0 <| .take 1 <| .take 2 <| .take 3 <| .take 4 <| .take 5 <| .take 6 <| .take 7 <| .take 8 <| .take 9 <| .take 10 <| .take 11 <| .take 12 <| .take 13 <| .take 14 <| .take 15 <| .take 16 <| .take 17 <| .take 18 <| .take 19 <| .take 20 <| .take 21 <| .take 22 <| .done) (by kernel_rfl) ?_
      simp (disch := omega) [-hset_if, -Bool.decide_and, hset_ne, hT2', hs2.ix elemS43, hs2.load shp3, hs2.load0 shp3, Addr.add_add]
      refine gif_dec (fun b6 => ?_) (fun b6 => ?_)
      · rw [if_pos (.inl b6)] at e1
        simp (disch := omega) [-hset_if, -Bool.decide_and, hset_ne]
        exact Next.mk (j + 1) (by first | omega | (dsimp only; omega)) (by simp (disch := omega) [-hset_if, -Bool.decide_and, hset_ne, e1]) ⟨rfl, rfl, by omega⟩
      · simp (disch := omega) [-hset_if, -Bool.decide_and, hset_ne, hT2', hs2.ix elemS43, hs2.load shp3, hs2.load0 shp3, Addr.add_add]
        refine cif_dec (fun b7 => ?_) (fun b7 => ?_)
        · rw [if_pos (.inr b7)] at e1
          simp (disch := omega) [-hset_if, -Bool.decide_and, hset_ne]
          exact Next.mk (j + 1) (by first | omega | (dsimp only; omega)) (by simp (disch := omega) [-hset_if, -Bool.decide_and, hset_ne, e1]) ⟨rfl, rfl, by omega⟩
        · rw [if_neg (by rintro (h | h); exact b6 h; exact b7 h)] at e1
          simp (disch := omega) [-hset_if, -Bool.decide_and, hset_ne]
          exact Next.mk (j + 1) (by first | omega | (dsimp only; omega)) (by simp (disch := omega) [-hset_if, -Bool.decide_and, hset_ne, e1]) ⟨rfl, rfl, by omega⟩
    · have e1 : scanR (rL r code data) r.client (j + 1) = scanR (rL r code data) r.client j := by
        rw [scanR, if_pos b5]
      simp (disch := omega) [-hset_if, -Bool.decide_and, hset_ne]
      exact Next.mk (j + 1) (by first | omega | (dsimp only; omega)) (by simp (disch := omega) [-hset_if, -Bool.decide_and, hset_ne, e1]) ⟨rfl, rfl, by omega⟩
  · have : j = (rL r code data).length := by omega
    subst this
    rw [← rS] at *
    simp (disch := omega) [-hset_if, -Bool.decide_and, hset_ne, hT2']
    refine cif_dec (fun b8 => ?_) (fun b8 => ?_)
    rotate_left
    · rw [if_neg b8] at hk
      simp (disch := omega) [-hset_if, -Bool.decide_and, hset_ne, hA2, hR2, rA]
      refine Fin_id ?_
      refine hk _ _ (fun i => i = T ∨ E1 i ∨ F i) v1 u E1 F (by omega) (fun i hi hD => by rw [hset_ne (by omega)]; exact hfrD i hi hD) (fun i hi => ?_) (hb.frame (Nat.le_refl _) (fun i hi => hset_ne ?_ _ _))
      · rcases hi with rfl | hi | hi
        · exact .inl hTT
        · rcases (hE1 i hi).1 with v | v
          · exact .inl ((h.d i).2 (.inr (.inl v)))
          · exact .inr (by omega)
        · exact .inl ((h.d i).2 (.inr (.inr hi)))
      · rcases hi with rfl | hi | hi
        · omega
        · have := hE1 i hi; omega
        · have := hFn i hi; omega
    rw [if_pos b8] at hk
    have hl0 : 0 ≤ (rS r code data).1 := k5 (by omega)
    have hl1 : (rS r code data).1 < (rL r code data).length := k2
    generalize hls : (rS r code data).1 = ls at *
    obtain ⟨m, rfl⟩ : ∃ m : Nat, ls = (m : Int) := ⟨ls.toNat, by omega⟩
    simp (disch := omega) [-hset_if, -Bool.decide_and, hset_ne]
    refine AW.draw (X := ⟨_, 160, _, _⟩) (id := 19) mixed (.take 0 <| .take 1 <| .take 2 <| .take 3 <| .take 4 <| .take 5 <| .take 6 <| .take 7 <| .take 8 <| .take 9 <| .take 10 <| .take 11 <| .take 12 <| .take 13 <| .take 14 <| .take 15 <| .take 16 <| .take 17 <| .take 18 <| .each 19 [0, 1, 2, 3, 4] (.each 20 [0] (.take 21 <| .take 22 <| .each 23 [] (.done) <| .stop) <| .stop) <| .stop) (by kernel_rfl) ?_
    simp (disch := omega) [-hset_if, -Bool.decide_and, hset_ne, hT2', hs2.ix elemS43, hs2.load shp3, hs2.load0 shp3, Addr.add_add]
    refine hf2.push elemS44 zero99 (by simp) (r.client, (at_ (rL r code data) (m : Int)).2.inv) rfl rfl rfl (by omega) (by omega) ?_
    intro u3 n3 H3 F3 x1 x2 x3 x4 x5
    have hFno : ¬ F n := fun y => by have := hFn n y; omega
    have hFno1 : ¬ F (n + 1) := fun y => by have := hFn _ y; omega
    have hT3 : H3 T = .cells [.int .i64 r.boot, .int .i64 r.limit, v1, u, .bool false, .int .i64 r.client, .int .i64 r.now.boot, .int .i64 r.now.inv, .string r.now.data, .int .i64 (r.done + 1)] 46 1 := by rw [x3 T (by omega) h.tF]; exact hT2'
    have hR3 := x3 n (by omega) hFno
    rw [hR2] at hR3
    have hA3 := x3 (n + 1) (by omega) hFno1
    rw [hA2] at hA3
    have hF3 : ∀ i, F3 i → (F i ∨ n1 < i) ∧ i ≠ T ∧ ¬ E1 i ∧ i ≠ n ∧ i ≠ n + 1 := fun i hi => by
      rcases x4 i hi with v | v
      · have := hFn i v
        exact ⟨.inl v, fun y => h.tF (y ▸ v), fun y => (hE1 i y).2.2.1 v, by omega, by omega⟩
      · exact ⟨.inr v, by omega, fun y => by have := ha2.lt i y; omega, by omega, by omega⟩
    have hTF3 : ¬ F3 T := fun y => (hF3 T y).2.1 rfl
    have ha3 : OwR ⟨Try.prog, w0⟩ H3 n3 E1 96 5 entC v1 (rL r code data) := ha2.frame (by omega) (fun i hi => x3 i (ha2.lt i hi) (hE1 i hi).2.2.1)
    simp (disch := omega) [-hset_if, -Bool.decide_and, hset_ne, hT3, x5.sl.cells, x5.sl.one]
    generalize hH4 : hset T _ H3 = H4
    have hT4 : H4 T = .cells [.int .i64 r.boot, .int .i64 r.limit, v1, u3, .bool false, .int .i64 r.client, .int .i64 r.now.boot, .int .i64 r.now.inv, .string r.now.data, .int .i64 (r.done + 1)] 46 1 := by rw [← hH4, hset_same]
    have hfr4 : ∀ i, i ≠ T → H4 i = H3 i := fun i hi => by rw [← hH4, hset_ne hi]
    have ha4 : OwR ⟨Try.prog, w0⟩ H4 n3 E1 96 5 entC v1 (rL r code data) := ha3.frame (Nat.le_refl _) (fun i hi => hfr4 i (fun y => hTE1 (y ▸ hi)))
    have hf4 := x5.frame (Nat.le_refl _) (fun i hi => hfr4 i (fun y => hTF3 (y ▸ hi)))
    have hR4 := hfr4 n (by omega)
    rw [hR3] at hR4
    have hA4 := hfr4 (n + 1) (by omega)
    rw [hA3] at hA4
    clear hH4
    refine AW.draw (X := ⟨_, 160, _, _⟩) (id := 20) mixed (.take 0 <| .take 2 <| .take 3 <| .take 4 <| .take 5 <| .take 6 <| .take 7 <| .take 9 <| .take 10 <| .take 11 <| .take 12 <| .take 13 <| .take 14 <| .take 15 <| .each 1 [0, 2, 3, 4, 5, 6, 7, 9, 10, 11, 12, 13, 14, 15] (.each 8 [0, 9, 10, 11, 12, 13, 14, 15] (.each 16 [0] (.take 17 <| .take 18 <| .each 19 [] (.done) <| .stop) <| .stop) <| .stop) <| .stop) (by kernel_rfl) ?_
    simp (disch := omega) [-hset_if, -Bool.decide_and, hset_ne, hT4]
    refine ha4.sl.head tk43 elemS43 (j := m) (by omega) ?_
    intro w1 hw1
    simp (disch := omega) [-hset_if, -Bool.decide_and, hset_ne, hT4]
    have cast1 : ((m : Int) + 1) = ((m + 1 : Nat) : Int) := by omega
    rw [cast1]
    refine ha4.sl.tail tk43 elemS43 (j := m + 1) (by omega) ?_
    intro w2 hw2
    simp (disch := omega) [-hset_if, -Bool.decide_and, hset_ne, hT4]
    have hE1n : ∀ i, E1 i → i < n3 := ha4.lt
    have hw1' : SlR ⟨Try.prog, w0⟩ (hset n3 (.cells [] 96 5) H4) E1 5 entC w1 ((rL r code data).take m) := hw1.frame (fun i hi => hset_ne (by have := hE1n i hi; omega) _ _)
    refine (OwR.empty (C := ⟨Try.prog, w0⟩) (f := entC) (T := 96) (sz := 5) (n := n3 + 1) (j := n3) (H := hset n3 (.cells [] 96 5) H4) (by omega) (by omega) (hset_same _ _ _)).appendS elemS43 zero96 rfl hw1' (fun _ _ => rfl) (by simp; omega) (by simp; omega) ?_
    intro v5 n5 H5 E5 y1 y2 y3 y4 y5
    have hfr5 : ∀ i, i < n3 → H5 i = H4 i := fun i hi => by rw [y3 i (by omega) (by omega), hset_ne (by omega)]
    have hT5 := hfr5 T (by omega)
    rw [hT4] at hT5
    have hw2' : SlR ⟨Try.prog, w0⟩ H5 E1 5 entC w2 ((rL r code data).drop (m + 1)) := hw2.frame (fun i hi => hfr5 i (hE1n i hi))
    simp (disch := omega) [-hset_if, -Bool.decide_and, hset_ne, hT5]
    refine y5.appendS elemS43 zero96 rfl hw2' (fun _ _ => rfl) (by simp; omega) (by simp; omega) ?_
    intro v6 n6 H6 E6 z1 z2 z3 z4 z5
    have hE5 : ∀ i, E5 i → n3 ≤ i := fun i hi => by rcases y4 i hi with v | v <;> omega
    have hE6 : ∀ i, E6 i → n3 ≤ i := fun i hi => by rcases z4 i hi with v | v; exact hE5 i v; omega
    have hfr6 : ∀ i, i < n3 → H6 i = H4 i := fun i hi => by rw [z3 i (by omega) (fun y => by have := hE5 i y; omega)]; exact hfr5 i hi
    have hT6 := hfr6 T (by omega)
    rw [hT4] at hT6
    have hA6 := hfr6 (n + 1) (by omega)
    rw [hA4] at hA6
    have hR6 := hfr6 n (by omega)
    rw [hR4] at hR6
    simp (disch := omega) [-hset_if, -Bool.decide_and, hset_ne, hT6, z5.sl.cells, z5.sl.one, hA6, hR6, rA]
    refine Fin_id ?_
    have hF3n : ∀ i, F3 i → i < n3 := hf4.lt
    have hcut : rCut r code data = { r with busy := false, done := r.done + 1, floors := r.floors ++ [(r.client, (at_ (rL r code data) (m : Int)).2.inv)], ans := (rL r code data).take m ++ (rL r code data).drop (m + 1) } := by
      unfold rCut; rw [hls]; rfl
    rw [hcut] at hk
    refine hk _ _ (fun i => i = T ∨ E6 i ∨ F3 i) v6 u3 E6 F3 (by omega) (fun i hi hD => ?_) (fun i hi => ?_) ⟨?_, ?_, ?_, fun y => ?_, hTF3, fun i hi y => ?_, by omega, fun i => Iff.rfl⟩
    · have hiT : i ≠ T := fun y => hD (y ▸ hTT)
      rw [hset_ne (by omega), hset_ne hiT, hfr6 i (by omega), hfr4 i hiT, x3 i (by omega) (fun y => hD ((h.d i).2 (.inr (.inr y))))]
      exact hfrD i hi hD
    · rcases hi with rfl | hi | hi
      · exact .inl hTT
      · have := hE6 i hi; exact .inr (by omega)
      · rcases (hF3 i hi).1 with v | v
        · exact .inl ((h.d i).2 (.inr (.inr v)))
        · exact .inr (by omega)
    · rw [hset_ne (by omega), hset_same]; rfl
    · refine z5.frame (Nat.le_refl _) (fun i hi => ?_)
      have := hE6 i hi
      rw [hset_ne (by omega), hset_ne (by omega)]
    · refine hf4.frame (by omega) (fun i hi => ?_)
      have := hF3 i hi
      rw [hset_ne this.2.2.2.1, hset_ne this.2.1]
      exact hfr6 i (hF3n i hi)
    · have := hE6 T y
      omega
    · have := hE6 i hi
      have := hF3n i y
      omega
end Go.Aw.S50
