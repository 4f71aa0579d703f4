/-
  Chapter 34: Next, Value.
-/
import Derived.Test.YtlcngkigfcacmaaS34e
namespace Go.Aw.S34
open Go.RowKit Go.Proofs Go.Aw.Tab
set_option linter.unusedSimpArgs false
set_option linter.unusedVariables false
set_option maxRecDepth 10000
set_option maxHeartbeats 1000000
set_option pp.deepTerms false
set_option pp.deepTerms.threshold 4
set_option pp.maxSteps 1500
attribute [local simp] Hold.cells intC range_get
variable {w0 : World} {n : Nat} {H : Heap} {K : Value → Nat → Heap → Prop} {s : ByteArray} {pv : Value} {D : Nat → Prop} {l : List Hold} {t : Int}
def nxF (l : List Hold) (t now : Int) : List Int → Int × Int
  | [] => (0, 9)
  | e :: r => if t < e ∧ gov l e ≠ now then (e, 0) else nxF l t now r
/-- The next change, and the error. -/
def nxtP (l : List Hold) (t : Int) : Int × Int := if chk l = 0 then nxF l t (gov l t) (sortI (endsL l)) else (0, chk l)
theorem chk_len (h : chk l = 0) : l.length ≤ 64 := by
  unfold chk at h
  by_cases h1 : 64 < l.length
  · rw [if_pos h1] at h; omega
  · omega
theorem next_r (hs : SlR ⟨Try.prog, w0⟩ H D 6 Hold.cells pv l) (hD : ∀ i, D i → i < n) (hb : l.length < 4611686018427387904) (hr : Res n H K (.tuple #[.int .i64 (nxtP l t).1, .int .i64 (nxtP l t).2])) : ACall ⟨Try.prog, w0⟩ 17 [pv, .int .i64 t] K n H := by
  unfold nxtP at hr
  refine ACall.run Try.func17 rfl Try.ntmps17 Try.results17 (by simp) fun J0 => ?_
  simp (disch := omega) [-hset_if, -Bool.decide_and, hset_ne]
  refine check_ok hs hD hb ?_
  simp (disch := omega) [-hset_if, -Bool.decide_and, hset_ne]
  refine cif_bne (fun h => ?_) (fun h => ?_)
  rotate_left
  · rw [if_neg h] at hr
    simp (disch := omega) [-hset_if, -Bool.decide_and, hset_ne]
    exact hr.fin rfl (by omega) (fun i hi => by simp (disch := omega) only [hset_ne])
  rw [if_pos h] at hr
  have h64 := chk_len h
  simp (disch := omega) [-hset_if, -Bool.decide_and, hset_ne]
  refine governs_ok hs hD hb ?_
  simp (disch := omega) [-hset_if, -Bool.decide_and, hset_ne]
  refine ends_ok hs hD h64 ?_
  intro n1 H1 v E p1 p2 p3 p4
  have hL : (sortI (endsL l)).length ≤ 128 := by rw [sortI_len, endsL_len]; omega
  generalize hes : sortI (endsL l) = es at hr p4 hL
  have hs1 : SlR ⟨Try.prog, w0⟩ H1 D 6 Hold.cells pv l := hs.frame (fun i hi => p2 i (hD i hi))
  have hD1 : ∀ i, D i → i < n1 := fun i hi => by have := hD i hi; omega
  have ho := p4.sl
  simp (disch := omega) [-hset_if, -Bool.decide_and, hset_ne, ho.lenK]
  refine AW.while (σ := Nat) (fun j => es.length - j) (fun j => [(0, pv), (1, .int .i64 t), (7, .int .i64 (gov l t)), (19, v), (20, .int .i64 es.length), (21, .int .i64 j)])
    (fun j n2 H2 => n2 = n1 ∧ H2 = H1 ∧ j ≤ es.length ∧ Res n H K (.tuple #[.int .i64 (nxF l t (gov l t) (es.drop j)).1, .int .i64 (nxF l t (gov l t) (es.drop j)).2])) 0 ?_ ?_ ?_
  · simp (disch := omega) [-hset_if, -Bool.decide_and, hset_ne]
  · exact ⟨rfl, rfl, by omega, hr⟩
  clear hr
  rintro j n2 H2 ⟨rfl, rfl, g1, hr⟩
  simp (disch := omega) [-hset_if, -Bool.decide_and, hset_ne]
  refine cif_dec (fun hj => ?_) (fun hj => ?_)
  · rw [drop_at hj, nxF] at hr
    simp (disch := omega) [-hset_if, -Bool.decide_and, hset_ne, ho.ix elemS56, ho.load0 shp3]
    refine gif_dec (fun h1 => ?_) (fun h1 => ?_)
    · simp (disch := omega) [-hset_if, -Bool.decide_and, hset_ne]
      refine governs_ok hs1 hD1 hb ?_
      simp (disch := omega) [-hset_if, -Bool.decide_and, hset_ne]
      refine cif_bne (fun h2 => ?_) (fun h2 => ?_)
      · rw [if_neg (fun e => e.2 h2)] at hr
        simp (disch := omega) [-hset_if, -Bool.decide_and, hset_ne]
        exact Next.mk (j + 1) (by omega) (by simp (disch := omega) [-hset_if, -Bool.decide_and, hset_ne]) ⟨rfl, rfl, by omega, hr⟩
      · rw [if_pos ⟨h1, h2⟩] at hr
        simp (disch := omega) [-hset_if, -Bool.decide_and, hset_ne]
        exact hr.fin rfl (by omega) p2
    · rw [if_neg (fun e => h1 e.1)] at hr
      simp (disch := omega) [-hset_if, -Bool.decide_and, hset_ne]
      exact Next.mk (j + 1) (by omega) (by simp (disch := omega) [-hset_if, -Bool.decide_and, hset_ne]) ⟨rfl, rfl, by omega, hr⟩
  · rw [List.drop_of_length_le (by omega), nxF] at hr
    simp (disch := omega) [-hset_if, -Bool.decide_and, hset_ne]
    exact hr.fin rfl (by omega) p2
theorem next_ok (hs : SlR ⟨Try.prog, w0⟩ H D 6 Hold.cells pv l) (hD : ∀ i, D i → i < n) (hb : l.length < 4611686018427387904) (hk : K (.tuple #[.int .i64 (nxtP l t).1, .int .i64 (nxtP l t).2]) n H) : ACall ⟨Try.prog, w0⟩ 17 [pv, .int .i64 t] K n H :=
  ACall.res (fun _ h => next_r hs hD hb h) (und_tuple (by simp)) hk
def rbet (l : List Hold) (t c e b : Int) : Int := if t < e ∧ (b < 0 ∨ e < b) ∧ atC c l e ≠ atC c l t then e else b
def rnxF (l : List Hold) (t c : Int) : List Int → Int → Int
  | [], b => b
  | e :: r, b => rnxF l t c r (rbet l t c e b)
/-- The specification's next change, or -1. -/
def rnx (l : List Hold) (t : Int) : Int := rnxF l t (chkR l) (endsL l) (-1)
theorem endsL_drop {j : Nat} (h : j < l.length) : endsL (l.drop j) = (at_ l (j : Int)).fr :: (at_ l (j : Int)).to :: endsL (l.drop (j + 1)) := by
  rw [drop_at h]; rfl
theorem nextR_r (hs : SlR ⟨Try.prog, w0⟩ H D 6 Hold.cells pv l) (hD : ∀ i, D i → i < n) (hb : l.length < 4611686018427387904) (hn : ∀ x ∈ l, x.nm.size ≤ 4611686018427387903) (hr : Res n H K (.int .i64 (rnx l t))) : ACall ⟨Try.prog, w0⟩ 20 [pv, .int .i64 t] K n H := by
  unfold rnx at hr
  refine ACall.run Try.func20 rfl Try.ntmps20 Try.results20 (by simp) fun J0 => ?_
  simp (disch := omega) [-hset_if, -Bool.decide_and, hset_ne]
  refine AW.while (σ := Nat × Int) (fun s => l.length - s.1) (fun s => [(0, pv), (1, .int .i64 t), (5, .int .i64 s.2), (6, .int .i64 s.1)])
    (fun s n1 H1 => s.1 ≤ l.length ∧ n ≤ n1 ∧ (∀ i, i < n → H1 i = H i) ∧ Res n H K (.int .i64 (rnxF l t (chkR l) (endsL (l.drop s.1)) s.2))) (0, -1) ?_ ?_ ?_
  · simp (disch := omega) [-hset_if, -Bool.decide_and, hset_ne]
  · exact ⟨by simp, by omega, fun _ _ => rfl, hr⟩
  clear hr
  rintro ⟨j, b⟩ n1 H1 ⟨g1, g2, g3, hr⟩
  dsimp only at g1 hr ⊢
  have hs1 : SlR ⟨Try.prog, w0⟩ H1 D 6 Hold.cells pv l := hs.frame (fun i hi => g3 i (hD i hi))
  simp (disch := omega) [-hset_if, -Bool.decide_and, hset_ne, hs1.lenK]
  refine cif_dec (fun h => ?_) (fun h => ?_)
  rotate_left
  · rw [List.drop_of_length_le (by omega)] at hr
    simp (disch := omega) [-hset_if, -Bool.decide_and, hset_ne]
    exact hr.fin rfl (by omega) g3
  rw [endsL_drop h] at hr
  have hD1 : ∀ i, D i → i < n1 + 1 := fun i hi => by have := hD i hi; omega
  simp (disch := omega) [-hset_if, -Bool.decide_and, hset_ne]
  refine AW.draw (X := ⟨_, 65, _, _⟩) (id := 5) mixed (.take 0 <| .take 1 <| .take 2 <| .take 3 <| .take 4 <| .take 5 <| .take 6 <| .take 7 <| .take 8 <| .take 9 <| .each 10 [] (.take 11 <| .done) <| .stop) (by kernel_rfl) ?_
  simp (disch := omega) [-hset_if, -Bool.decide_and, hset_ne, hs1.ix elemS22, hs1.load shp3, hs1.load0 shp3, h]
  have ho : SlR ⟨Try.prog, w0⟩ (hset n1 (.cells [.int .i64 (at_ l (j : Int)).fr, .int .i64 (at_ l (j : Int)).to] 3 1) H1) (· = n1) 1 intC (.slice (some ⟨new n1, 0, none⟩) 2 2) [(at_ l (j : Int)).fr, (at_ l (j : Int)).to] :=
    (OwR.lit (n := n1 + 1) (T := 3) (cs := [.int .i64 (at_ l (j : Int)).fr, .int .i64 (at_ l (j : Int)).to]) (by omega) (by simp [intC]) (by omega) (hset_same _ _ _) (by simp [intC]) (by simp)).sl
  have hs2 : SlR ⟨Try.prog, w0⟩ (hset n1 (.cells [.int .i64 (at_ l (j : Int)).fr, .int .i64 (at_ l (j : Int)).to] 3 1) H1) D 6 Hold.cells pv l := hs1.frame (fun i hi => by have := hD i hi; rw [hset_ne (by omega)])
  have hf : ∀ i, i < n → hset n1 (.cells [.int .i64 (at_ l (j : Int)).fr, .int .i64 (at_ l (j : Int)).to] 3 1) H1 i = H i := fun i hi => by rw [hset_ne (by omega)]; exact g3 i hi
  generalize hset n1 (.cells [.int .i64 (at_ l (j : Int)).fr, .int .i64 (at_ l (j : Int)).to] 3 1) H1 = G at ho hs2 hf ⊢
  generalize hv : Value.slice (some ⟨new n1, 0, none⟩) 2 2 = v at ho
  generalize hes : [(at_ l (j : Int)).fr, (at_ l (j : Int)).to] = es at ho
  have he2 : es.length = 2 := by rw [← hes]; rfl
  have hr2 : Res n H K (.int .i64 (rnxF l t (chkR l) (es ++ endsL (l.drop (j + 1))) b)) := by rw [← hes]; exact hr
  clear hr
  refine AW.while (σ := Nat × Int) (fun s => 2 - s.1) (fun s => [(0, pv), (1, .int .i64 t), (6, .int .i64 j), (7, v), (5, .int .i64 s.2), (8, .int .i64 s.1)])
    (fun s n2 H2 => n2 = n1 + 1 ∧ H2 = G ∧ s.1 ≤ 2 ∧ Res n H K (.int .i64 (rnxF l t (chkR l) (es.drop s.1 ++ endsL (l.drop (j + 1))) s.2))) (0, b) ?_ ?_ ?_
  · simp (disch := omega) [-hset_if, -Bool.decide_and, hset_ne, hv]
  · exact ⟨rfl, rfl, by simp, hr2⟩
  clear hr2
  rintro ⟨k, b⟩ n2 H2 ⟨rfl, rfl, g4, hr⟩
  dsimp only at g4 hr ⊢
  simp (disch := omega) [-hset_if, -Bool.decide_and, hset_ne]
  refine cif_dec (fun hk => ?_) (fun hk => ?_)
  · rw [drop_at (by omega), List.cons_append, rnxF] at hr
    have hk2 : k < es.length := by omega
    simp (disch := omega) [-hset_if, -Bool.decide_and, hset_ne, ho.ix elemS56, ho.load0 shp3, hk2]
    repeat' (first | (with_reducible intro _; first | (exfalso; omega) | (simp (disch := omega) [-hset_if, -Bool.decide_and, hset_ne, ho.ix elemS56, ho.load0 shp3, hk2]) | skip) | (with_reducible refine And.intro ?_ ?_; omega) | with_reducible apply cif_dec | with_reducible apply cif_beq | with_reducible apply cif_bne | with_reducible apply cif_var | with_reducible apply gif_dec | with_reducible apply gif_ndec | with_reducible apply gif_beq | with_reducible apply gif_bne | with_reducible apply gif_nbeq | with_reducible apply gif_var)
    any_goals
      (refine atR_ok hs2 hD1 hb hn ?_
       simp (disch := omega) [-hset_if, -Bool.decide_and, hset_ne, ho.ix elemS56, ho.load0 shp3, hk2])
    any_goals
      (refine atR_ok hs2 hD1 hb hn ?_
       simp (disch := omega) [-hset_if, -Bool.decide_and, hset_ne, ho.ix elemS56, ho.load0 shp3, hk2])
    repeat' (first | (with_reducible intro _; first | (exfalso; omega) | (simp (disch := omega) [-hset_if, -Bool.decide_and, hset_ne, ho.ix elemS56, ho.load0 shp3, hk2]) | skip) | (with_reducible refine And.intro ?_ ?_; omega) | with_reducible apply cif_dec | with_reducible apply cif_beq | with_reducible apply cif_bne | with_reducible apply cif_var | with_reducible apply gif_dec | with_reducible apply gif_ndec | with_reducible apply gif_beq | with_reducible apply gif_bne | with_reducible apply gif_nbeq | with_reducible apply gif_var)
    all_goals first
      | (rw [rbet, if_pos ⟨by assumption, by omega, by assumption⟩] at hr
         exact Next.mk (k + 1, at_ es (k : Int)) (by first | omega | (dsimp only; omega)) (by simp (disch := omega) [-hset_if, -Bool.decide_and, hset_ne]) ⟨rfl, rfl, (by first | omega | (dsimp only; omega)), hr⟩)
      | (rw [rbet, if_neg (by omega)] at hr
         exact Next.mk (k + 1, b) (by first | omega | (dsimp only; omega)) (by simp (disch := omega) [-hset_if, -Bool.decide_and, hset_ne]) ⟨rfl, rfl, (by first | omega | (dsimp only; omega)), hr⟩)
  · rw [List.drop_of_length_le (by omega), List.nil_append] at hr
    simp (disch := omega) [-hset_if, -Bool.decide_and, hset_ne]
    exact Next.mk (j + 1, b) (by first | omega | (dsimp only; omega)) (by simp (disch := omega) [-hset_if, -Bool.decide_and, hset_ne]) ⟨(by first | omega | (dsimp only; omega)), by omega, hf, hr⟩
theorem nextR_ok (hs : SlR ⟨Try.prog, w0⟩ H D 6 Hold.cells pv l) (hD : ∀ i, D i → i < n) (hb : l.length < 4611686018427387904) (hn : ∀ x ∈ l, x.nm.size ≤ 4611686018427387903) (hk : K (.int .i64 (rnx l t)) n H) : ACall ⟨Try.prog, w0⟩ 20 [pv, .int .i64 t] K n H :=
  ACall.res (fun _ h => nextR_r hs hD hb hn h) (by simp) hk
/-- The value of the hold that governs, or another one. -/
def valP (l : List Hold) (t kd nu : Int) : Int × Int := if 0 ≤ atC (chk l) l t then ((at_ l (atC (chk l) l t)).kind, (at_ l (atC (chk l) l t)).num) else (kd, nu)
theorem better_lt {b : Int} {j : Nat} (h : j < l.length) (hb : b < l.length) : better l t j b < l.length := by
  unfold better; split <;> omega
theorem govF_lt : ∀ (k j : Nat) (b : Int), j + k ≤ l.length → b < l.length → govF l t k j b < l.length
  | 0, _, _, _, h => h
  | k + 1, j, b, h1, h => govF_lt k (j + 1) _ (by omega) (better_lt (by omega) h)
theorem gov_lt (h : 0 ≤ gov l t) : gov l t < l.length := by
  cases hl : l with
  | nil => subst hl; simp [gov, govF] at h
  | cons x r => rw [← hl]; exact govF_lt _ _ _ (by omega) (by rw [hl]; simp; omega)
theorem atC_lt {c : Int} (h : 0 ≤ atC c l t) : atC c l t < l.length := by
  unfold atC at h ⊢
  split
  · rename_i hc; rw [if_pos hc] at h; exact gov_lt h
  · omega
theorem value_ok {kd nu : Int} (hs : SlR ⟨Try.prog, w0⟩ H D 6 Hold.cells pv l) (hD : ∀ i, D i → i < n) (hb : l.length < 4611686018427387904) (hk : K (.agg #[.int .i64 (valP l t kd nu).1, .int .i64 (valP l t kd nu).2]) n H) : ACall ⟨Try.prog, w0⟩ 19 [pv, .int .i64 t, .agg #[.int .i64 kd, .int .i64 nu]] K n H := by
  refine ACall.res (fun K' hr => ?_) (und_agg (by simp)) hk
  unfold valP at hr
  have hlt := fun h => atC_lt (c := chk l) (l := l) (t := t) h
  refine ACall.run Try.func19 rfl Try.ntmps19 Try.results19 (by simp) fun J0 => ?_
  simp (disch := omega) [-hset_if, -Bool.decide_and, hset_ne]
  have hs1 : ∀ o o' m, n ≤ m → SlR ⟨Try.prog, w0⟩ (hset m o (hset n o' H)) D 6 Hold.cells pv l := fun o o' m hm => hs.frame (fun i hi => by have := hD i hi; rw [hset_ne (by omega), hset_ne (by omega)])
  have hD1 : ∀ i, D i → i < n + 2 := fun i hi => by have := hD i hi; omega
  refine at_ok (hs1 _ _ _ (by omega)) hD1 hb ?_
  generalize atC (chk l) l t = a at hr hlt ⊢
  simp (disch := omega) [-hset_if, -Bool.decide_and, hset_ne]
  have hl1 := fun o o' h1 h2 => (hs1 o o' (n + 1) (by omega)).load shp41 (off := 3) (z := a) (by omega) (by omega) h1 h2
  refine cif_dec (fun h => ?_) (fun h => ?_)
  · rw [if_pos h] at hr
    have h2 := hlt h
    simp (disch := omega) [-hset_if, -Bool.decide_and, hset_ne, hs.ix elemS22, hl1]
    exact hr.fin rfl (by omega) (fun i hi => by simp (disch := omega) only [hset_ne])
  · rw [if_neg h] at hr
    simp (disch := omega) [-hset_if, -Bool.decide_and, hset_ne]
    exact hr.fin rfl (by omega) (fun i hi => by simp (disch := omega) only [hset_ne])
end Go.Aw.S34
