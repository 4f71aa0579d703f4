/-
  Chapter 50: the reference's server handles a request.
-/
import Derived.Test.YtfeclhjbkphjdaaS50d
namespace Go.Aw.S50
open Go.RowKit Go.Proofs Go.Aw.Tab
set_option linter.unusedSimpArgs false
set_option linter.unusedVariables false
set_option maxRecDepth 10000
set_option maxHeartbeats 2000000
set_option pp.deepTerms false
set_option pp.deepTerms.threshold 4
set_option pp.maxSteps 1500
attribute [local simp] Ans.cells Ask.cells Opn.cells
variable {w0 : World} {n : Nat} {H : Heap} {K : Value → Nat → Heap → Prop}
theorem Executed_ok {S M : Nat} {sv : Srv} {ms : List Ent} (h : SvR H n S M sv ms) (hk : K (.int .i64 sv.done) n H) : ACall ⟨Try.prog, w0⟩ 17 [.pointer (some ⟨new S, 0, none⟩)] K n H := by
  have hself := h.self
  refine ACall.res (fun K' hr => ?_) (by simp) hk
  refine ACall.run Try.func17 rfl Try.ntmps17 Try.results17 (by simp) fun J0 => ?_
  simp (disch := omega) [-hset_if, -Bool.decide_and, hset_ne, hself]
  exact hr.fin rfl (by omega) (fun i hi => by simp (disch := omega) only [hset_ne])
/-- The limits of a new server. -/
def nsOk (b m : Int) : Prop := 1 ≤ b ∧ b ≤ 1000000000 ∧ 1 ≤ m ∧ m ≤ 100
instance {b m : Int} : Decidable (nsOk b m) := by unfold nsOk; infer_instance
theorem NewServer_ok {b m : Int} (h1 : ¬ nsOk b m → ∀ n' H', n ≤ n' → (∀ i, i < n → H' i = H i) → K (.tuple #[.pointer none, .int .i64 6]) n' H')
    (h2 : nsOk b m → ∀ n' H' S M, n ≤ n' → (∀ i, i < n → H' i = H i) → n ≤ S → n ≤ M → SvR H' n' S M ⟨b, m, 0, 0, 0⟩ [] → K (.tuple #[.pointer (some ⟨new S, 0, none⟩), .int .i64 0]) n' H') : ACall ⟨Try.prog, w0⟩ 11 [.int .i64 b, .int .i64 m] K n H := by
  refine ACall.run Try.func11 rfl Try.ntmps11 Try.results11 (by simp) fun J0 => ?_
  simp (disch := omega) [-hset_if, -Bool.decide_and, hset_ne]
  repeat' (first | (with_reducible intro _; first | (exfalso; omega) | (simp (disch := omega) [-hset_if, -Bool.decide_and, hset_ne]) | skip) | (with_reducible refine And.intro ?_ ?_; omega) | with_reducible apply cif_dec | with_reducible apply cif_beq | with_reducible apply cif_bne | with_reducible apply cif_var | with_reducible apply gif_dec | with_reducible apply gif_ndec | with_reducible apply gif_beq | with_reducible apply gif_bne | with_reducible apply gif_nbeq | with_reducible apply gif_var)
  all_goals refine Fin_id ?_
  · exact h1 (by unfold nsOk; omega) _ _ (Nat.le_refl _) (fun _ _ => rfl)
  · exact h1 (by unfold nsOk; omega) _ _ (Nat.le_refl _) (fun _ _ => rfl)
  · exact h1 (by unfold nsOk; omega) _ _ (Nat.le_refl _) (fun _ _ => rfl)
  · exact h1 (by unfold nsOk; omega) _ _ (Nat.le_refl _) (fun _ _ => rfl)
  · exact h2 (by unfold nsOk; omega) _ _ (n + 1) n (by omega) (fun i hi => by simp (disch := omega) only [hset_ne]) (by omega) (by omega) ⟨by simp (disch := omega) [-hset_if, -Bool.decide_and, hset_ne], MapG.new0 (c := 0) (by simp (disch := omega) [-hset_if, -Bool.decide_and, hset_ne]), by simp, by simp, by simp, by simp⟩
/-- The reference's server. -/
structure RSv where
  boot : Int
  limit : Int
  ans : List (Int × Ans)
  floors : List (Int × Int)
  busy : Bool
  client : Int
  now : Ask
  done : Int
instance : Inhabited (Int × Ans) := ⟨(0, default)⟩
def entC (p : Int × Ans) : List Value := [.int .i64 p.1, .int .i64 p.2.boot, .int .i64 p.2.inv, .int .i64 p.2.code, .string p.2.data]
def flC (p : Int × Int) : List Value := [.int .i64 p.1, .int .i64 p.2]
attribute [local simp] entC flC
def rsC (r : RSv) (v u : Value) : List Value := [.int .i64 r.boot, .int .i64 r.limit, v, u, .bool r.busy, .int .i64 r.client, .int .i64 r.now.boot, .int .i64 r.now.inv, .string r.now.data, .int .i64 r.done]
attribute [local simp] rsC
structure RsR (H : Heap) (w0 : World) (n T : Nat) (D : Nat → Prop) (r : RSv) (v u : Value) (E F : Nat → Prop) : Prop where
  self : H T = .cells (rsC r v u) 46 1
  ans : OwR ⟨Try.prog, w0⟩ H n E 96 5 entC v r.ans
  floors : OwR ⟨Try.prog, w0⟩ H n F 99 2 flC u r.floors
  tE : ¬ E T
  tF : ¬ F T
  ef : ∀ i, E i → ¬ F i
  lt : T < n
  d : ∀ i, D i ↔ i = T ∨ E i ∨ F i
theorem RsR.frame {T : Nat} {D E F : Nat → Prop} {r : RSv} {v u : Value} (h : RsR H w0 n T D r v u E F) {n' : Nat} {H' : Heap} (h1 : n ≤ n') (h2 : ∀ i, D i → H' i = H i) : RsR H' w0 n' T D r v u E F :=
  ⟨by rw [h2 T ((h.d T).2 (.inl rfl))]; exact h.self, h.ans.frame h1 (fun i hi => h2 i ((h.d i).2 (.inr (.inl hi)))), h.floors.frame h1 (fun i hi => h2 i ((h.d i).2 (.inr (.inr hi)))), h.tE, h.tF, h.ef, by have := h.lt; omega, h.d⟩
theorem RsR.dlt {T : Nat} {D E F : Nat → Prop} {r : RSv} {v u : Value} (h : RsR H w0 n T D r v u E F) {i : Nat} (hi : D i) : i < n := by
  rcases (h.d i).1 hi with rfl | hi | hi
  · exact h.lt
  · exact h.ans.lt i hi
  · exact h.floors.lt i hi
theorem RNewServer_ok {b m : Int} (h1 : ¬ nsOk b m → ∀ n' H', n ≤ n' → (∀ i, i < n → H' i = H i) → K (.tuple #[.pointer none, .int .i64 6]) n' H')
    (h2 : nsOk b m → ∀ n' H' T, n ≤ n' → (∀ i, i < n → H' i = H i) → n ≤ T → RsR H' w0 n' T (· = T) ⟨b, m, [], [], false, 0, ⟨0, 0, ⟨#[]⟩⟩, 0⟩ (.slice none 0 0) (.slice none 0 0) (fun _ => False) (fun _ => False) → K (.tuple #[.pointer (some ⟨new T, 0, none⟩), .int .i64 0]) n' H') : ACall ⟨Try.prog, w0⟩ 12 [.int .i64 b, .int .i64 m] K n H := by
  refine ACall.run Try.func12 rfl Try.ntmps12 Try.results12 (by simp) fun J0 => ?_
  simp (disch := omega) [-hset_if, -Bool.decide_and, hset_ne]
  refine in_ok ?_
  simp (disch := omega) [-hset_if, -Bool.decide_and, hset_ne]
  refine gif_ndec (fun a1 => ?_) (fun a1 => ?_)
  · simp (disch := omega) [-hset_if, -Bool.decide_and, hset_ne]
    refine Fin_id ?_
    exact h1 (by unfold nsOk; omega) _ _ (Nat.le_refl _) (fun _ _ => rfl)
  · simp (disch := omega) [-hset_if, -Bool.decide_and, hset_ne]
    refine in_ok ?_
    simp (disch := omega) [-hset_if, -Bool.decide_and, hset_ne]
    refine cif_dec (fun a2 => ?_) (fun a2 => ?_)
    rotate_left
    · simp (disch := omega) [-hset_if, -Bool.decide_and, hset_ne]
      refine Fin_id ?_
      exact h1 (by unfold nsOk; omega) _ _ (Nat.le_refl _) (fun _ _ => rfl)
    · simp (disch := omega) [-hset_if, -Bool.decide_and, hset_ne]
      refine Fin_id ?_
      exact h2 (by unfold nsOk; omega) _ _ n (by omega) (fun i hi => by simp (disch := omega) only [hset_ne]) (by omega) ⟨by rw [hset_same]; rfl, OwR.nil (by omega), OwR.nil (by omega), id, id, fun _ h _ => h, by omega, fun i => by simp⟩
theorem mx_eq (a b : Int) : mxI a b = max a b := by unfold mxI; split <;> omega
/-- The floor of a client. -/
def floorP (l : List (Int × Int)) (c : Int) : Int := l.foldl (fun m p => if p.1 = c then max m p.2 else m) 0
theorem floor_ok {T : Nat} {D E F : Nat → Prop} {r : RSv} {v u : Value} {c : Int} (h : RsR H w0 n T D r v u E F) (hl : r.floors.length < 1000) (hk : K (.int .i64 (floorP r.floors c)) n H) : ACall ⟨Try.prog, w0⟩ 37 [.pointer (some ⟨new T, 0, none⟩), .int .i64 c] K n H := by
  have hself := h.self
  have hs := h.floors.sl
  refine ACall.res (fun K' hr => ?_) (by simp) hk
  refine ACall.run Try.func37 rfl Try.ntmps37 Try.results37 (by simp) fun J0 => ?_
  simp (disch := omega) [-hset_if, -Bool.decide_and, hset_ne]
  refine AW.while (σ := Nat × Int) (fun s => r.floors.length - s.1) (fun s => [(0, .pointer (some ⟨new T, 0, none⟩)), (1, .int .i64 c), (5, .int .i64 s.2), (6, .int .i64 (s.1 : Int))])
    (fun s n1 H1 => n = n1 ∧ H = H1 ∧ s.1 ≤ r.floors.length ∧ Res n H K' (.int .i64 ((r.floors.drop s.1).foldl (fun m p => if p.1 = c then max m p.2 else m) s.2))) (0, 0) ?_ ?_ ?_
  · simp (disch := omega) [-hset_if, -Bool.decide_and, hset_ne]
  · exact ⟨rfl, rfl, by omega, by simpa [floorP] using hr⟩
  clear hr
  rintro ⟨j, m⟩ _ _ ⟨rfl, rfl, g1, hr⟩
  dsimp only at g1
  replace hr : Res n H K' (.int .i64 ((r.floors.drop j).foldl (fun m p => if p.1 = c then max m p.2 else m) m)) := hr
  dsimp only
  simp (disch := omega) [-hset_if, -Bool.decide_and, hset_ne, hself, hs.lenK]
  refine cif_dec (fun b1 => ?_) (fun b1 => ?_)
  · rw [drop_at (by omega), List.foldl_cons] at hr
    simp (disch := omega) [-hset_if, -Bool.decide_and, hset_ne, hself, hs.ix elemS44, hs.load shp3, hs.load0 shp3]
    refine cif_beq (fun b2 => ?_) (fun b2 => ?_)
    · rw [if_pos b2] at hr
      simp (disch := omega) [-hset_if, -Bool.decide_and, hset_ne, hself, hs.ix elemS44, hs.load shp3, hs.load0 shp3]
      exact Next.mk (j + 1, max m (at_ r.floors (j : Int)).2) (by first | omega | (dsimp only; omega)) (by simp (disch := omega) [-hset_if, -Bool.decide_and, hset_ne, mx_eq]) ⟨rfl, rfl, by dsimp only; omega, hr⟩
    · rw [if_neg b2] at hr
      simp (disch := omega) [-hset_if, -Bool.decide_and, hset_ne]
      exact Next.mk (j + 1, m) (by first | omega | (dsimp only; omega)) (by simp (disch := omega) [-hset_if, -Bool.decide_and, hset_ne]) ⟨rfl, rfl, by dsimp only; omega, hr⟩
  · rw [List.drop_of_length_le (by omega)] at hr
    simp (disch := omega) [-hset_if, -Bool.decide_and, hset_ne]
    exact hr.fin (by simp) (by omega) (fun i hi => by simp (disch := omega) only [hset_ne])
def sameQ (c i : Int) (p : Int × Ans) : Bool := decide (p.1 = c) && decide (p.2.inv = i)
/-- Rule 4, as the reference has it. -/
def rHandleP (r : RSv) (c : Int) (a : Ask) : (Ans × Bool × Int) × RSv :=
  if ¬ (1 ≤ c ∧ c ≤ 127) ∨ ¬ (1 ≤ a.inv ∧ a.inv ≤ 1000000000) ∨ 400 < a.data.size then ((default, false, 1), r)
  else if a.boot ≠ r.boot then ((⟨r.boot, a.inv, 15, ⟨#[]⟩⟩, false, 0), r)
  else match r.ans.find? (sameQ c a.inv) with
    | some p => ((p.2, false, 0), r)
    | none => if a.inv ≤ floorP r.floors c then ((⟨r.boot, a.inv, 5, ⟨#[]⟩⟩, false, 0), r)
      else if r.busy then ((default, false, 8), r)
      else ((default, true, 0), { r with busy := true, client := c, now := a })
theorem RHandle_ok {T : Nat} {D E F : Nat → Prop} {r : RSv} {v u : Value} {c : Int} {a : Ask} (h : RsR H w0 n T D r v u E F) (hl : r.ans.length < 1000) (hl2 : r.floors.length < 1000)
    (hk : ∀ n' H', n ≤ n' → (∀ i, i < n → i ≠ T → H' i = H i) → RsR H' w0 n' T D (rHandleP r c a).2 v u E F → K (hdV (rHandleP r c a).1) n' H') :
    ACall ⟨Try.prog, w0⟩ 14 [.pointer (some ⟨new T, 0, none⟩), .int .i64 c, .agg a.cells.toArray] K n H := by
  have hself := h.self
  have hs := h.ans.sl
  have hTn := h.lt
  have hEn := h.ans.lt
  unfold rHandleP at hk
  have bad : ¬ (1 ≤ c ∧ c ≤ 127) ∨ ¬ (1 ≤ a.inv ∧ a.inv ≤ 1000000000) ∨ 400 < a.data.size → ∀ n' H', n ≤ n' → (∀ i, i < n → H' i = H i) → K (.tuple #[.agg #[.int .i64 0, .int .i64 0, .int .i64 0, .string ⟨#[]⟩], .bool false, .int .i64 1]) n' H' := fun hb n' H' h1 h2 => by
    rw [if_pos hb] at hk
    exact hk n' H' h1 (fun i hi _ => h2 i hi) (h.frame h1 (fun i hi => h2 i (h.dlt hi)))
  refine ACall.run Try.func14 rfl Try.ntmps14 Try.results14 (by simp) fun J0 => ?_
  simp (disch := omega) [-hset_if, -Bool.decide_and, hset_ne]
  refine in_ok ?_
  simp (disch := omega) [-hset_if, -Bool.decide_and, hset_ne]
  refine gif_ndec (fun b1 => ?_) (fun b1 => ?_)
  · simp (disch := omega) [-hset_if, -Bool.decide_and, hset_ne]
    refine Fin_id ?_
    exact bad (by omega) _ _ (by omega) (fun i hi => by simp (disch := omega) only [hset_ne])
  simp (disch := omega) [-hset_if, -Bool.decide_and, hset_ne]
  refine in_ok ?_
  simp (disch := omega) [-hset_if, -Bool.decide_and, hset_ne]
  refine gif_ndec (fun b2 => ?_) (fun b2 => ?_)
  · simp (disch := omega) [-hset_if, -Bool.decide_and, hset_ne]
    refine Fin_id ?_
    exact bad (by omega) _ _ (by omega) (fun i hi => by simp (disch := omega) only [hset_ne])
  simp (disch := omega) [-hset_if, -Bool.decide_and, hset_ne]
  refine cif_dec (fun b3 => ?_) (fun b3 => ?_)
  · simp (disch := omega) [-hset_if, -Bool.decide_and, hset_ne]
    refine Fin_id ?_
    exact bad (by omega) _ _ (by omega) (fun i hi => by simp (disch := omega) only [hset_ne])
  rw [if_neg (by omega)] at hk
  clear bad
  simp (disch := omega) [-hset_if, -Bool.decide_and, hset_ne]
  generalize hH0 : hset (n + 1) (.cells [.int .i64 0, .int .i64 0, .int .i64 0, .string ⟨#[]⟩] 33 1) (hset n (.cells [.int .i64 a.boot, .int .i64 a.inv, .string a.data] 35 1) H) = H0
  have hA0 : H0 n = .cells [.int .i64 a.boot, .int .i64 a.inv, .string a.data] 35 1 := by rw [← hH0, hset_ne (by omega), hset_same]
  have hR0 : H0 (n + 1) = .cells [.int .i64 0, .int .i64 0, .int .i64 0, .string ⟨#[]⟩] 33 1 := by rw [← hH0, hset_same]
  have hfr0 : ∀ i, i < n → H0 i = H i := fun i hi => by rw [← hH0]; simp (disch := omega) only [hset_ne]
  have h0 : RsR H0 w0 (n + 2) T D r v u E F := h.frame (by omega) (fun i hi => hfr0 i (h.dlt hi))
  have hself := h0.self
  have hs := h0.ans.sl
  have fin : ∀ o x, (∀ n' H', n ≤ n' → (∀ i, i < n → i ≠ T → H' i = H i) → RsR H' w0 n' T D r v u E F → K x n' H') → K x (n + 2) (hset (n + 1) o H0) := fun o x hx =>
    hx _ _ (by omega) (fun i hi _ => by rw [hset_ne (by omega)]; exact hfr0 i hi) (h0.frame (by omega) (fun i hi => hset_ne (by have := h.dlt hi; omega) _ _))
  refine AW.draw (X := ⟨_, 111, _, _⟩) (id := 3) mixed (.take 0 <| .take 1 <| .take 2 <| .take 3 <| .take 4 <| .take 5 <| .take 6 <| .done) (by kernel_rfl) ?_
  simp (disch := omega) [-hset_if, -Bool.decide_and, hset_ne, hself, hA0]
  refine cif_bne (fun c1 => ?_) (fun c1 => ?_)
  rotate_left
  · rw [if_pos c1] at hk
    simp (disch := omega) [-hset_if, -Bool.decide_and, hset_ne]
    refine AW.draw (X := ⟨_, 111, _, _⟩) (id := 4) mixed (.take 0 <| .take 1 <| .take 2 <| .take 3 <| .take 4 <| .take 5 <| .take 6 <| .each 7 [] (.take 8 <| .take 9 <| .done) <| .stop) (by kernel_rfl) ?_
    simp (disch := omega) [-hset_if, -Bool.decide_and, hset_ne, hself, hA0, hR0]
    refine Fin_id ?_
    exact fin _ _ hk
  rw [if_neg (by omega)] at hk
  simp (disch := omega) [-hset_if, -Bool.decide_and, hset_ne]
  refine AW.while (σ := Nat) (fun j => r.ans.length - j) (fun j => [(0, .pointer (some ⟨new T, 0, none⟩)), (1, .int .i64 c), (5, .pointer (some ⟨new n, 0, none⟩)), (6, .pointer (some ⟨new (n + 1), 0, none⟩)), (9, .int .i64 (j : Int))])
    (fun j n1 H1 => n + 2 = n1 ∧ H0 = H1 ∧ j ≤ r.ans.length ∧ r.ans.find? (sameQ c a.inv) = (r.ans.drop j).find? (sameQ c a.inv)) 0 ?_ ?_ ?_
  · simp (disch := omega) [-hset_if, -Bool.decide_and, hset_ne]
  · exact ⟨rfl, rfl, by omega, rfl⟩
  rintro j _ _ ⟨rfl, rfl, g1, hf⟩
  simp (disch := omega) [-hset_if, -Bool.decide_and, hset_ne, hself, hs.lenK]
  refine cif_dec (fun b1 => ?_) (fun b1 => ?_)
  · rw [drop_at (by omega), List.find?_cons] at hf
    refine AW.draw (X := ⟨_, 111, _, _⟩) (id := 8) mixed (.take 0 <| .take 1 <| .take 2 <| .take 3 <| .take 4 <| .take 5 <| .take 6 <| .take 7 <| .take 8 <| .take 9 <| .take 10 <| .take 11 <| .take 12 <| .take 13 <| .take 14 <| .take 15 <| .take 16 <| .take 17 <| .take 18 <| .take 19 <| .take 20 <| .take 21 <| .take 22 <| .take 23 <| .done) (by kernel_rfl) ?_
    simp (disch := omega) [-hset_if, -Bool.decide_and, hset_ne, hself, hA0, hs.ix elemS43, hs.load shp3, hs.load0 shp3, Addr.add_add]
    refine gif_beq (fun b4 => ?_) (fun b4 => ?_)
    · simp (disch := omega) [-hset_if, -Bool.decide_and, hset_ne, hself, hA0, hs.ix elemS43, hs.load shp3, hs.load0 shp3, Addr.add_add]
      refine cif_beq (fun b5 => ?_) (fun b5 => ?_)
      · rw [show sameQ c a.inv (at_ r.ans (j : Int)) = true by unfold sameQ; simp [b4, b5]] at hf
        dsimp only at hf
        rw [hf] at hk
        dsimp only at hk
        simp (disch := omega) [-hset_if, -Bool.decide_and, hset_ne, hself, hs.ix elemS43, hs.load shp33, Addr.add_add, hR0]
        refine Fin_id ?_
        exact fin _ _ hk
      · rw [show sameQ c a.inv (at_ r.ans (j : Int)) = false by unfold sameQ; simp [b5]] at hf
        dsimp only at hf
        simp (disch := omega) [-hset_if, -Bool.decide_and, hset_ne]
        exact Next.mk (j + 1) (by first | omega | (dsimp only; omega)) (by simp (disch := omega) [-hset_if, -Bool.decide_and, hset_ne]) ⟨rfl, rfl, by omega, hf⟩
    · rw [show sameQ c a.inv (at_ r.ans (j : Int)) = false by unfold sameQ; simp [b4]] at hf
      dsimp only at hf
      simp (disch := omega) [-hset_if, -Bool.decide_and, hset_ne]
      exact Next.mk (j + 1) (by first | omega | (dsimp only; omega)) (by simp (disch := omega) [-hset_if, -Bool.decide_and, hset_ne]) ⟨rfl, rfl, by omega, hf⟩
  · rw [List.drop_of_length_le (by omega), List.find?_nil] at hf
    rw [hf] at hk
    dsimp only at hk
    simp (disch := omega) [-hset_if, -Bool.decide_and, hset_ne]
    refine AW.draw (X := ⟨_, 111, _, _⟩) (id := 10) mixed (.take 0 <| .take 1 <| .take 2 <| .take 3 <| .each 4 [0, 1] (.take 5 <| .done) <| .stop) (by kernel_rfl) ?_
    simp (disch := omega) [-hset_if, -Bool.decide_and, hset_ne, hA0]
    refine floor_ok h0 hl2 ?_
    simp (disch := omega) [-hset_if, -Bool.decide_and, hset_ne]
    refine ⟨by rw [hA0]; rfl, ?_⟩
    refine cif_dec (fun d1 => ?_) (fun d1 => ?_)
    · rw [if_pos d1] at hk
      simp (disch := omega) [-hset_if, -Bool.decide_and, hset_ne]
      refine AW.draw (X := ⟨_, 111, _, _⟩) (id := 11) mixed (.take 0 <| .take 1 <| .take 2 <| .take 3 <| .take 4 <| .take 5 <| .take 6 <| .each 7 [] (.take 8 <| .take 9 <| .done) <| .stop) (by kernel_rfl) ?_
      simp (disch := omega) [-hset_if, -Bool.decide_and, hset_ne, hself, hA0, hR0]
      refine Fin_id ?_
      exact fin _ _ hk
    rw [if_neg d1] at hk
    simp (disch := omega) [-hset_if, -Bool.decide_and, hset_ne, hself]
    refine cif_var (fun d2 => ?_) (fun d2 => ?_)
    · rw [if_pos d2] at hk
      simp (disch := omega) [-hset_if, -Bool.decide_and, hset_ne, hR0]
      refine Fin_id ?_
      exact fin _ _ hk
    rw [if_neg (by simp [d2])] at hk
    simp (disch := omega) [-hset_if, -Bool.decide_and, hset_ne, hself, hA0, hR0]
    refine Fin_id ?_
    refine hk _ _ (by omega) (fun i hi hT => ?_) ⟨?_, h.ans.frame (by omega) (fun i hi => ?_), h.floors.frame (by omega) (fun i hi => ?_), h.tE, h.tF, h.ef, by omega, h.d⟩
    · simp (disch := omega) only [hset_ne]
      exact hfr0 i hi
    · simp (disch := omega) [-hset_if, -Bool.decide_and, hset_ne]
    · have := hEn i hi
      have : i ≠ T := fun y => h.tE (y ▸ hi)
      simp (disch := omega) only [hset_ne]
      exact hfr0 i (by omega)
    · have := h.floors.lt i hi
      have : i ≠ T := fun y => h.tF (y ▸ hi)
      simp (disch := omega) only [hset_ne]
      exact hfr0 i (by omega)
end Go.Aw.S50
