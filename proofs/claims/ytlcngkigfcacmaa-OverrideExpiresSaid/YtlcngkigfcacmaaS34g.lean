/-
  Chapter 34: the pieces.
-/
import Derived.Test.YtlcngkigfcacmaaS34f
namespace Go.Aw.S34
open Go.RowKit Go.Proofs Go.Aw.Tab
set_option linter.unusedSimpArgs false
set_option linter.unusedVariables false
set_option maxRecDepth 10000
set_option maxHeartbeats 1000000
set_option pp.deepTerms false
set_option pp.deepTerms.threshold 4
set_option pp.maxSteps 1500
structure Pc where
  fr : Int
  to : Int
  h : Int
  deriving Inhabited, DecidableEq
def Pc.cells (p : Pc) : List Value := [.int .i64 p.fr, .int .i64 p.to, .int .i64 p.h]
attribute [local simp] Hold.cells intC range_get Pc.cells
variable {w0 : World} {n : Nat} {H : Heap} {K : Value → Nat → Heap → Prop} {s : ByteArray} {pv : Value} {D : Nat → Prop} {l : List Hold} {t fr to : Int}
def pcF (l : List Hold) (fr to : Int) : Int → Int → List Int → List Pc
  | a, h, [] => [⟨a, to, h⟩]
  | a, h, e :: r => if fr < e ∧ e < to ∧ gov l e ≠ h then ⟨a, e, h⟩ :: pcF l fr to e (gov l e) r else pcF l fr to a h r
/-- The error of a span. -/
def pcE (l : List Hold) (fr to : Int) : Int := if chk l = 0 then if to < fr then 1 else 0 else chk l
def pcP (l : List Hold) (fr to : Int) : List Pc := if chk l = 0 then if fr < to then pcF l fr to fr (gov l fr) (sortI (endsL l)) else [] else []
structure PP where
  j : Nat
  v : Value
  E : Nat → Prop
  acc : List Pc
  a : Int
  h : Int
theorem pieces_ok (hs : SlR ⟨Try.prog, w0⟩ H D 6 Hold.cells pv l) (hD : ∀ i, D i → i < n) (hb : l.length < 4611686018427387904)
    (hk : ∀ n' H' v E, n ≤ n' → (∀ i, i < n → H' i = H i) → (∀ i, E i → n ≤ i) → OwR ⟨Try.prog, w0⟩ H' n' E 34 3 Pc.cells v (pcP l fr to) → K (.tuple #[v, .int .i64 (pcE l fr to)]) n' H') : ACall ⟨Try.prog, w0⟩ 12 [pv, .int .i64 fr, .int .i64 to] K n H := by
  unfold pcE pcP at hk
  refine ACall.run Try.func12 rfl Try.ntmps12 Try.results12 (by simp) fun J0 => ?_
  simp (disch := omega) [-hset_if, -Bool.decide_and, hset_ne]
  refine check_ok hs hD hb ?_
  simp (disch := omega) [-hset_if, -Bool.decide_and, hset_ne]
  refine cif_bne (fun h => ?_) (fun h => ?_)
  rotate_left
  · rw [if_neg h, if_neg h] at hk
    simp (disch := omega) [-hset_if, -Bool.decide_and, hset_ne]
    refine Fin_id (hk _ _ _ _ (by omega) (fun i hi => by simp (disch := omega) only [hset_ne]) (fun _ h => h.elim) (OwR.nil (by omega)))
  rw [if_pos h, if_pos h] at hk
  have h64 := chk_len h
  simp (disch := omega) [-hset_if, -Bool.decide_and, hset_ne]
  refine cif_dec (fun h1 => ?_) (fun h1 => ?_)
  · rw [if_pos h1, if_neg (by omega)] at hk
    simp (disch := omega) [-hset_if, -Bool.decide_and, hset_ne]
    refine Fin_id (hk _ _ _ _ (by omega) (fun i hi => by simp (disch := omega) only [hset_ne]) (fun _ h => h.elim) (OwR.nil (by omega)))
  rw [if_neg h1] at hk
  simp (disch := omega) [-hset_if, -Bool.decide_and, hset_ne]
  refine cif_beq (fun h2 => ?_) (fun h2 => ?_)
  · rw [if_neg (by omega)] at hk
    simp (disch := omega) [-hset_if, -Bool.decide_and, hset_ne]
    refine Fin_id (hk _ _ _ _ (by omega) (fun i hi => by simp (disch := omega) only [hset_ne]) (fun _ h => h.elim) (OwR.nil (by omega)))
  rw [if_pos (by omega)] at hk
  simp (disch := omega) [-hset_if, -Bool.decide_and, hset_ne]
  refine governs_ok hs hD hb ?_
  simp (disch := omega) [-hset_if, -Bool.decide_and, hset_ne]
  refine ends_ok (hs.frame (fun i hi => by have := hD i hi; rw [hset_ne (by omega)])) (fun i hi => by have := hD i hi; omega) h64 ?_
  intro n1 H1 v E p1 p2 p3 p4
  have hL : (sortI (endsL l)).length ≤ 128 := by rw [sortI_len, endsL_len]; omega
  generalize hes : sortI (endsL l) = es at hk p4 hL
  have q0 : H1 n = .cells [.int .i64 fr, .int .i64 to, .int .i64 (gov l fr)] 34 3 := by rw [p2 n (by omega), hset_same]
  have qf : ∀ i, i < n → H1 i = H i := fun i hi => by rw [p2 i (by omega), hset_ne (by omega)]
  simp (disch := omega) [-hset_if, -Bool.decide_and, hset_ne, p4.sl.lenK]
  generalize hT : pcF l fr to fr (gov l fr) es = T at hk
  refine AW.while (σ := PP) (fun s => es.length - s.j) (fun s => [(0, pv), (1, .int .i64 fr), (2, .int .i64 to), (33, v), (34, .int .i64 es.length), (9, s.v), (35, .int .i64 s.j)])
    (fun s n2 H2 => s.j ≤ es.length ∧ n1 ≤ n2 ∧ (∀ i, i < n → H2 i = H i) ∧ (∀ i, E i → H2 i = H1 i) ∧ OwR ⟨Try.prog, w0⟩ H2 n2 s.E 34 3 Pc.cells s.v (s.acc ++ [⟨s.a, to, s.h⟩]) ∧ (∀ i, s.E i → i = n ∨ n1 ≤ i) ∧ s.acc ++ pcF l fr to s.a s.h (es.drop s.j) = T ∧ s.acc.length ≤ s.j)
    ⟨0, .slice (some ⟨new n, 0, none⟩) 1 1, (· = n), [], fr, gov l fr⟩ ?_ ?_ ?_
  · simp (disch := omega) [-hset_if, -Bool.decide_and, hset_ne]
  · exact ⟨by simp, by simp, qf, fun _ _ => rfl, OwR.lit (by omega) (by simp) (by omega) q0 (by simp) (by simp), fun i hi => .inl hi, hT, by simp⟩
  rintro ⟨j, v2, E2, acc, a, hh⟩ n2 H2 ⟨g1, g2, g3, g4, g5, g6, g7, g8⟩
  dsimp only at g1 g2 g3 g4 g5 g6 g7 g8 ⊢
  have hs2 : SlR ⟨Try.prog, w0⟩ H2 D 6 Hold.cells pv l := hs.frame (fun i hi => g3 i (hD i hi))
  have hD2 : ∀ i, D i → i < n2 := fun i hi => by have := hD i hi; omega
  have he2 : SlR ⟨Try.prog, w0⟩ H2 E 1 intC v es := p4.sl.frame (fun i hi => g4 i hi)
  have hlen : (acc ++ [(⟨a, to, hh⟩ : Pc)]).length = acc.length + 1 := by simp
  have hlk := g5.sl.lenK
  rw [hlen] at hlk
  have hlast : at_ (acc ++ [(⟨a, to, hh⟩ : Pc)]) (acc.length : Int) = ⟨a, to, hh⟩ := by rw [at_nat (by simp)]; simp
  simp (disch := omega) [-hset_if, -Bool.decide_and, hset_ne]
  refine cif_dec (fun hj => ?_) (fun hj => ?_)
  rotate_left
  · rw [List.drop_of_length_le (by omega), pcF] at g7
    rw [g7] at g5
    simp (disch := omega) [-hset_if, -Bool.decide_and, hset_ne]
    refine Fin_id (hk _ _ _ _ (by omega) g3 (fun i hi => by have := g6 i hi; omega) g5)
  rw [drop_at hj, pcF] at g7
  have hi0 : (0 : Int) ≤ acc.length := by omega
  have hi1 : (acc.length : Int) < (acc ++ [(⟨a, to, hh⟩ : Pc)]).length := by omega
  have e1 : ((acc.length + 1 : Nat) : Int) - 1 = acc.length := by omega
  simp (disch := omega) [-hset_if, -Bool.decide_and, hset_ne, he2.ix elemS56, he2.load0 shp3, hlk, g5.sl.ix elemS25, e1, hi0, hi1]
  refine governs_ok hs2 hD2 hb ?_
  generalize hge : gov l (at_ es (j : Int)) = ge at g7 ⊢
  generalize hee : at_ es (j : Int) = ee at g7 ⊢
  have hld := g5.sl.load shp3 (by omega) (off := 2) (by omega) hi0 hi1
  simp (disch := omega) [-hset_if, -Bool.decide_and, hset_ne, hld, hlast]
  repeat' (first | (with_reducible intro _; first | (exfalso; omega) | (simp (disch := omega) [-hset_if, -Bool.decide_and, hset_ne, hld, hlast]) | skip) | (with_reducible refine And.intro ?_ ?_; omega) | with_reducible apply cif_dec | with_reducible apply cif_beq | with_reducible apply cif_bne | with_reducible apply cif_var | with_reducible apply gif_dec | with_reducible apply gif_ndec | with_reducible apply gif_beq | with_reducible apply gif_bne | with_reducible apply gif_nbeq | with_reducible apply gif_var)
  all_goals try
    (rw [if_neg (by omega)] at g7
     exact Next.mk ⟨j + 1, v2, E2, acc, a, hh⟩ (by first | omega | (dsimp only; omega)) (by simp (disch := omega) [-hset_if, -Bool.decide_and, hset_ne]) ⟨(by first | omega | (dsimp only; omega)), g2, g3, g4, g5, g6, g7, (by first | omega | (dsimp only; omega))⟩)
  rename_i h3 h4 h5
  rw [if_pos ⟨h3, h4, h5⟩] at g7
  refine g5.store shp3 (z := (acc.length : Int)) (u := .int .i64 ee) (off := 1) hi0 hi1 rfl rfl (by omega) ⟨a, ee, hh⟩ (by rw [hlast]; rfl) ?_
  intro H3 r1 r2
  have hset2 : (acc ++ [(⟨a, to, hh⟩ : Pc)]).set (acc.length : Int).toNat ⟨a, ee, hh⟩ = acc ++ [⟨a, ee, hh⟩] := by simp
  rw [hset2] at r2
  simp (disch := omega) [-hset_if, -Bool.decide_and, hset_ne]
  refine r2.push elemS25 zero34 rfl ⟨ee, to, ge⟩ rfl rfl rfl (by simp; omega) (by simp; omega) ?_
  intro v3 n4 H4 E4 s1 s2 s3 s4 s5
  simp (disch := omega) [-hset_if, -Bool.decide_and, hset_ne]
  refine Next.mk ⟨j + 1, v3, E4, acc ++ [⟨a, ee, hh⟩], ee, ge⟩ (by first | omega | (dsimp only; omega)) (by simp (disch := omega) [-hset_if, -Bool.decide_and, hset_ne]) ⟨(by first | omega | (dsimp only; omega)), by omega, fun i hi => ?_, fun i hi => ?_, s5, fun i hi => ?_, ?_, by simp; omega⟩
  · have : ¬ E2 i := fun e => by have := g6 i e; omega
    rw [s3 i (by omega) this, r1 i this]; exact g3 i hi
  · have h7 := p3 i hi
    have h8 := p4.lt i hi
    have : ¬ E2 i := fun e => by have := g6 i e; omega
    rw [s3 i (by omega) this, r1 i this]; exact g4 i hi
  · rcases s4 i hi with e | e
    · exact g6 i e
    · omega
  · rw [List.append_assoc]; exact g7
end Go.Aw.S34
