/-
  Chapter 46: what a medium is asked, and the reference, continued.
-/
import Derived.Test.YtjjapgagcepmfaaS46d
namespace Go.Aw.S46
open Go.RowKit Go.Proofs Go.Aw.Tab
attribute [local simp] Frame.cells Heard.cells
set_option linter.unusedSimpArgs false
set_option maxRecDepth 10000
set_option maxHeartbeats 1000000
set_option pp.deepTerms false
set_option pp.deepTerms.threshold 4
set_option pp.maxSteps 1500
variable {w0 : World} {n : Nat} {H : Heap} {K : Value → Nat → Heap → Prop} {k : Nat} {v : Value} {D : Nat → Prop} {hs : List Heard}
def FromS (hs : List Heard) (s : Int) (q : Nat) : Prop := (at_ hs (q : Int)).what = 1 ∧ (at_ hs (q : Int)).frame.src = s
def IsLast (hs : List Heard) (s : Int) : Option Nat → Prop
  | some i => i < hs.length ∧ FromS hs s i ∧ ∀ q, i < q → q < hs.length → ¬ FromS hs s q
  | none => ∀ q, q < hs.length → ¬ FromS hs s q
theorem IsLast.uniq {s : Int} {o o' : Option Nat} (h : IsLast hs s o) (h' : IsLast hs s o') : o = o' := by
  match o, o', h, h' with
  | none, none, _, _ => rfl
  | none, some j, h, h' => exact absurd h'.2.1 (h j h'.1)
  | some i, none, h, h' => exact absurd h.2.1 (h' i h.1)
  | some i, some j, h, h' =>
    rcases Nat.lt_trichotomy i j with e | e | e
    · exact absurd h'.2.1 (h.2.2 j e h'.1)
    · rw [e]
    · exact absurd h.2.1 (h'.2.2 i e h.1)
def lastV (hs : List Heard) : Option Nat → Value
  | some i => .tuple #[.agg (at_ hs (i : Int)).frame.cells.toArray, .int .i64 i, .int .i64 0]
  | none => .tuple #[.agg noFrame.cells.toArray, .int .i64 0, .int .i64 9]
def lastR (hs : List Heard) : Option Nat → Value
  | some i => .tuple #[.agg (at_ hs (i : Int)).frame.cells.toArray, .int .i64 i]
  | none => .tuple #[.agg noFrame.cells.toArray, .int .i64 (-1)]
theorem last_ok (hm : Med w0 H n k v D hs) (s : Int) (hb : hs.length ≤ 1000000) (hk : ∀ o n' H', IsLast hs s o → n ≤ n' → (∀ i, i < n → H' i = H i) → K (lastV hs o) n' H') :
    ACall ⟨Try.prog, w0⟩ 22 [.pointer (some ⟨new k, 0, none⟩), .int .i64 s] K n H := by
  have hlt := hm.lt
  refine ACall.run Try.func22 rfl Try.ntmps22 Try.results22 (by simp) fun J0 => ?_
  simp (disch := omega) [-hset_if, -Bool.decide_and, hset_ne, hm.obj, hm.own.sl.lenK]
  refine AW.while (σ := Nat) (fun j => j) (fun j => [(0, .pointer (some ⟨new k, 0, none⟩)), (1, .int .i64 s), (4, .pointer (some ⟨new n, 0, none⟩)), (7, .int .i64 (j - 1))])
    (fun j n1 H1 => j ≤ hs.length ∧ n + 1 ≤ n1 ∧ (∀ i, i < n → H1 i = H i) ∧ H1 n = .cells noFrame.cells 25 1 ∧ ∀ q, j ≤ q → q < hs.length → ¬ FromS hs s q) hs.length ?_ ?_ ?_
  · simp (disch := omega) [-hset_if, -Bool.decide_and, hset_ne]
  · exact ⟨by omega, by omega, (fun i hi => by simp (disch := omega) only [hset_ne]), by simp [noFrame], fun q h1 h2 => by omega⟩
  rintro j n1 H1 ⟨g1, g2, g3, g4, g5⟩
  have hm1 : Med w0 H1 n1 k v D hs := hm.frame (by omega) (g3 k hlt) (fun i hi => g3 i (hm.own.lt i hi))
  simp (disch := omega) [-hset_if, -Bool.decide_and, hset_ne]
  refine cif_dec (fun h => ?_) (fun h => ?_)
  · obtain ⟨i, rfl⟩ : ∃ i, j = i + 1 := ⟨j - 1, by omega⟩
    have g5' : ¬ FromS hs s i → ∀ q, i ≤ q → q < hs.length → ¬ FromS hs s q := fun hn q h1 h2 => by
      rcases Nat.eq_or_lt_of_le h1 with e | e
      · exact e ▸ hn
      · exact g5 q e h2
    simp (disch := omega) [-hset_if, -Bool.decide_and, hset_ne, hm1.obj, hm1.own.sl.ix elemS33, hm1.own.sl.load0 shp27]
    refine gif_beq (fun h2 => ?_) (fun h2 => ?_)
    · simp (disch := omega) [-hset_if, -Bool.decide_and, hset_ne]
      refine cif_beq (fun h3 => ?_) (fun h3 => ?_)
      · simp (disch := omega) [-hset_if, -Bool.decide_and, hset_ne, g4]
        refine Fin_id ?_
        refine hk (some i) _ _ ⟨by omega, ⟨h2, h3⟩, g5⟩ (by omega) (fun i hi => ?_)
        simp (disch := omega) [-hset_if, -Bool.decide_and, hset_ne, g3]
      · simp (disch := omega) [-hset_if, -Bool.decide_and, hset_ne]
        refine Next.mk i (by first | omega | (simp only; omega)) ?_ ⟨by omega, by omega, fun q hq => ?_, ?_, g5' (fun h => h3 h.2)⟩
        · simp (disch := omega) [-hset_if, -Bool.decide_and, hset_ne]
        · simp (disch := omega) [-hset_if, -Bool.decide_and, hset_ne, g3]
        · simp (disch := omega) [-hset_if, -Bool.decide_and, hset_ne, g4]
    · simp (disch := omega) [-hset_if, -Bool.decide_and, hset_ne]
      refine Next.mk i (by first | omega | (simp only; omega)) ?_ ⟨by omega, by omega, fun q hq => ?_, ?_, g5' (fun h => h2 h.1)⟩
      · simp (disch := omega) [-hset_if, -Bool.decide_and, hset_ne]
      · simp (disch := omega) [-hset_if, -Bool.decide_and, hset_ne, g3]
      · simp (disch := omega) [-hset_if, -Bool.decide_and, hset_ne, g4]
  · simp (disch := omega) [-hset_if, -Bool.decide_and, hset_ne, g4]
    refine Fin_id ?_
    refine hk none _ _ (fun q hq => g5 q (by omega) hq) (by omega) (fun i hi => ?_)
    simp (disch := omega) [-hset_if, -Bool.decide_and, hset_ne, g3]
theorem refLast_ok (hs' : SlR ⟨Try.prog, w0⟩ H D 5 Heard.cells v hs) (hD : ∀ i, D i → i < n) (s : Int) (hb : hs.length ≤ 1000000) (hk : ∀ o n' H', IsLast hs s o → n ≤ n' → (∀ i, i < n → H' i = H i) → K (lastR hs o) n' H') :
    ACall ⟨Try.prog, w0⟩ 23 [v, .int .i64 s] K n H := by
  refine ACall.run Try.func23 rfl Try.ntmps23 Try.results23 (by simp) fun J0 => ?_
  simp (disch := omega) [-hset_if, -Bool.decide_and, hset_ne, hs'.lenK]
  refine AW.while (σ := Nat) (fun j => j) (fun j => [(0, v), (1, .int .i64 s), (4, .pointer (some ⟨new n, 0, none⟩)), (6, .int .i64 (j - 1))])
    (fun j n1 H1 => j ≤ hs.length ∧ n + 1 ≤ n1 ∧ (∀ i, i < n → H1 i = H i) ∧ H1 n = .cells noFrame.cells 25 1 ∧ ∀ q, j ≤ q → q < hs.length → ¬ FromS hs s q) hs.length ?_ ?_ ?_
  · simp (disch := omega) [-hset_if, -Bool.decide_and, hset_ne]
  · exact ⟨by omega, by omega, (fun i hi => by simp (disch := omega) only [hset_ne]), by simp [noFrame], fun q h1 h2 => by omega⟩
  rintro j n1 H1 ⟨g1, g2, g3, g4, g5⟩
  have hs1 : SlR ⟨Try.prog, w0⟩ H1 D 5 Heard.cells v hs := hs'.frame (fun i hi => g3 i (hD i hi))
  simp (disch := omega) [-hset_if, -Bool.decide_and, hset_ne]
  refine cif_dec (fun h => ?_) (fun h => ?_)
  · obtain ⟨i, rfl⟩ : ∃ i, j = i + 1 := ⟨j - 1, by omega⟩
    have g5' : ¬ FromS hs s i → ∀ q, i ≤ q → q < hs.length → ¬ FromS hs s q := fun hn q h1 h2 => by
      rcases Nat.eq_or_lt_of_le h1 with e | e
      · exact e ▸ hn
      · exact g5 q e h2
    simp (disch := omega) [-hset_if, -Bool.decide_and, hset_ne, hs1.ix elemS33, hs1.load shp3, hs1.load0 shp3]
    refine gif_beq (fun h2 => ?_) (fun h2 => ?_)
    · simp (disch := omega) [-hset_if, -Bool.decide_and, hset_ne, hs1.ix elemS33, hs1.load shp3, Addr.add_add]
      refine cif_beq (fun h3 => ?_) (fun h3 => ?_)
      · simp (disch := omega) [-hset_if, -Bool.decide_and, hset_ne, g4, hs1.ix elemS33, hs1.load shp25]
        refine Fin_id ?_
        refine hk (some i) _ _ ⟨by omega, ⟨h2, h3⟩, g5⟩ (by omega) (fun i hi => ?_)
        simp (disch := omega) [-hset_if, -Bool.decide_and, hset_ne, g3]
      · simp (disch := omega) [-hset_if, -Bool.decide_and, hset_ne]
        refine Next.mk i (by first | omega | (simp only; omega)) ?_ ⟨by omega, by omega, fun q hq => ?_, ?_, g5' (fun h => h3 h.2)⟩
        · simp (disch := omega) [-hset_if, -Bool.decide_and, hset_ne]
        · simp (disch := omega) [-hset_if, -Bool.decide_and, hset_ne, g3]
        · simp (disch := omega) [-hset_if, -Bool.decide_and, hset_ne, g4]
    · simp (disch := omega) [-hset_if, -Bool.decide_and, hset_ne]
      refine Next.mk i (by first | omega | (simp only; omega)) ?_ ⟨by omega, by omega, fun q hq => ?_, ?_, g5' (fun h => h2 h.1)⟩
      · simp (disch := omega) [-hset_if, -Bool.decide_and, hset_ne]
      · simp (disch := omega) [-hset_if, -Bool.decide_and, hset_ne, g3]
      · simp (disch := omega) [-hset_if, -Bool.decide_and, hset_ne, g4]
  · simp (disch := omega) [-hset_if, -Bool.decide_and, hset_ne, g4]
    refine Fin_id ?_
    refine hk none _ _ (fun q hq => g5 q (by omega) hq) (by omega) (fun i hi => ?_)
    simp (disch := omega) [-hset_if, -Bool.decide_and, hset_ne, g3]
end Go.Aw.S46
