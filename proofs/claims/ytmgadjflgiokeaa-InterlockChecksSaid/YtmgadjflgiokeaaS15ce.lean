/-
  Chapter 15: groups that are not in order, points that occur twice.
-/
import Derived.Test.YtmgadjflgiokeaaS15cp
namespace Go.Aw.S15
open Go.RowKit Go.Proofs Go.Aw.Tab
set_option linter.unusedSimpArgs false
set_option linter.unusedVariables false
set_option maxRecDepth 10000
set_option maxHeartbeats 1000000
set_option pp.deepTerms false
set_option pp.deepTerms.threshold 4
set_option pp.maxSteps 1500
attribute [local simp] Gr.cells Pt.cells strC
variable {w0 : World} {n : Nat} {H : Heap} {K : Value → Nat → Heap → Prop} {D E : Nat → Prop} {gs : List Gr} {pts : List Pt}
/-- All points, one group behind the other. -/
def flatP (gs : List Gr) : List ByteArray := gs.flatMap (·.ps)
theorem flat_len : ∀ (gs : List Gr) (b : Nat), (∀ g ∈ gs, g.ps.length ≤ b) → (flatP gs).length ≤ gs.length * b
  | [], b, _ => by simp [flatP]
  | g :: r, b, h => by
    have ih := flat_len r b (fun x hx => h x (by simp [hx]))
    have := h g (by simp)
    unfold flatP at *
    rw [List.flatMap_cons, List.length_append, List.length_cons, Nat.add_mul]
    omega
def ltN (a b : ByteArray) : Bool := Op.bytesLess a.toList b.toList
/-- The names increase. -/
def IncN (gs : List Gr) (k : Nat) : Prop := ∀ q : Nat, q + 1 < k → ltN (at_ gs (q : Int)).nm (at_ gs ((q + 1 : Nat) : Int)).nm = true
def incB (gs : List Gr) : Bool := (List.range (gs.length - 1)).all fun q => ltN (at_ gs (q : Int)).nm (at_ gs ((q + 1 : Nat) : Int)).nm
theorem incB_yes {gs : List Gr} (h : IncN gs gs.length) : incB gs = true := by
  unfold incB
  exact List.all_eq_true.2 fun q hq => h q (by simp at hq; omega)
theorem incB_no {gs : List Gr} {q : Nat} (hq : q + 1 < gs.length) (h : ltN (at_ gs (q : Int)).nm (at_ gs ((q + 1 : Nat) : Int)).nm = false) : incB gs = false := by
  unfold incB
  exact List.all_eq_false.2 ⟨q, by simp; omega, by rw [h]; simp⟩
def twiceP (gs : List Gr) : Bool := !(incB gs) || !(decide (flatP gs).Nodup)
structure TwI (w0 : World) (H0 H : Heap) (n n2 : Nat) (v : Value) (E : Nat → Prop) (gs : List Gr) (k : Nat) : Prop where
  ou : OwR ⟨Try.prog, w0⟩ H n2 E 9 1 strC v (flatP (gs.take k))
  ne : ∀ i, E i → n ≤ i
  fr : ∀ i, i < n → H i = H0 i
  le : n ≤ n2
  inc : IncN gs k
structure EP where
  j : Nat
  v : Value
  E : Nat → Prop
theorem twice_ok {gv : Value} (hs : GrsR H w0 D gv gs) (hD : ∀ i, D i → i < n) (hl : gs.length ≤ 20) (hp : ∀ g ∈ gs, g.ps.length ≤ 20) (hk : ∀ n' H', n ≤ n' → (∀ i, i < n → H' i = H i) → K (.bool (twiceP gs)) n' H') : ACall ⟨Try.prog, w0⟩ 64 [gv] K n H := by
  refine ACall.run Try.func64 rfl Try.ntmps64 Try.results64 (by simp) fun J0 => ?_
  simp (disch := omega) [-hset_if, -Bool.decide_and, hset_ne, hs.sl.lenK]
  refine AW.while (σ := EP) (fun s => gs.length - s.j) (fun s => [(0, gv), (6, gv), (7, .int .i64 (gs.length : Int)), (3, s.v), (8, .int .i64 (s.j : Int))])
    (fun s n2 H2 => s.j ≤ gs.length ∧ TwI w0 H H2 n n2 s.v s.E gs s.j) ⟨0, .slice none 0 0, fun _ => False⟩ ?_ ?_ ?_
  · simp (disch := omega) [-hset_if, -Bool.decide_and, hset_ne]
  · exact ⟨by simp, ⟨OwR.nil (by omega), fun _ h => h.elim, fun _ _ => rfl, by omega, fun q hq => by simp at hq⟩⟩
  rintro ⟨k, v, E⟩ n2 H2 ⟨g1, g2⟩
  dsimp only at g1 g2 ⊢
  have hle := g2.le
  have hs2 := hs.frame (H' := H2) (fun i hi => g2.fr i (hD i hi))
  have hfl : (flatP (gs.take k)).length ≤ 400 := by
    have := flat_len (gs.take k) 20 (fun g hg => hp g (List.mem_of_mem_take hg))
    rw [List.length_take] at this
    have : min k gs.length ≤ 20 := by omega
    omega
  simp (disch := omega) [-hset_if, -Bool.decide_and, hset_ne]
  refine cif_dec (fun c1 => ?_) (fun c1 => ?_)
  · have hkl : k < gs.length := by omega
    obtain ⟨r, hr⟩ : ∃ r, at_ gs (k : Int) = r := ⟨_, rfl⟩
    have hr1 : r ∈ gs := hr ▸ at_mem hkl
    have ho := (hs.ps r hr1).one
    have hrp := hp r hr1
    have hfn : flatP (gs.take (k + 1)) = flatP (gs.take k) ++ r.ps := by
      unfold flatP
      rw [take_next hkl, hr, List.flatMap_append]; simp
    simp (disch := omega) [-hset_if, -Bool.decide_and, hset_ne, hs2.sl.ix elemS72, hs2.sl.load0 shp24, hr, ho]
    have hb2 : hset n2 (.cells [.string r.nm, r.pv, .int .i64 r.dd] 24 1) H2 n2 = .cells [.string r.nm, r.pv, .int .i64 r.dd] 24 1 := hset_same _ _ _
    have hf2 : ∀ i, i < n2 → hset n2 (.cells [.string r.nm, r.pv, .int .i64 r.dd] 24 1) H2 i = H2 i := fun i hi => hset_ne (by omega) _ _
    generalize hset n2 (.cells [.string r.nm, r.pv, .int .i64 r.dd] 24 1) H2 = H3 at *
    have hs3 := hs2.frame (H' := H3) (fun i hi => hf2 i (by have := hD i hi; omega))
    have ou3 := g2.ou.frame (m := n2 + 1) (H' := H3) (by omega) (fun i hi => hf2 i (g2.ou.lt i hi))
    have hrs := hs3.ps r hr1
    by_cases c2 : 0 < k
    · obtain ⟨q, rfl⟩ : ∃ q : Nat, k = q + 1 := ⟨k - 1, by omega⟩
      have hq : (((q + 1 : Nat) : Int) - 1) = (q : Int) := by omega
      have hq' : ((q : Int) + 1 - 1) = (q : Int) := by omega
      obtain ⟨r2, hr2⟩ : ∃ r, at_ gs (q : Int) = r := ⟨_, rfl⟩
      have hinc := incB_no (gs := gs) (q := q) (by omega)
      rw [hr2, hr] at hinc
      refine AW.draw (X := ⟨_, 40, _, _⟩) (id := 5) mixed (.take 0 <| .take 1 <| .take 2 <| .take 3 <| .take 4 <| .take 5 <| .take 6 <| .take 7 <| .take 8 <| .take 9 <| .take 10 <| .take 11 <| .take 12 <| .done) (by kernel_rfl) ?_
      simp (disch := omega) [-hset_if, -Bool.decide_and, hset_ne, hq, hq', hs3.sl.ix elemS72, hs3.sl.load shp9, hr2, hb2]
      cases c3 : ltN r2.nm r.nm with
      | false =>
        have c4 : Op.bytesLess r2.nm.toList r.nm.toList = false := c3
        simp (disch := omega) [-hset_if, -Bool.decide_and, hset_ne, c4]
        refine Fin_id ?_
        have := hk (n2 + 1) H3 (by omega) (fun i hi => by rw [hf2 i (by omega), g2.fr i hi])
        unfold twiceP at this
        rw [hinc c3] at this
        exact this
      | true =>
        have c4 : Op.bytesLess r2.nm.toList r.nm.toList = true := c3
        simp (disch := omega) [-hset_if, -Bool.decide_and, hset_ne, c4, hb2]
        refine ou3.appendS elemS22 zero9 (by simp) hrs (fun s _ => by simp) (by first | omega | (dsimp only; omega)) (by first | omega | (dsimp only; omega)) ?_
        intro v4 n4 H4 E4 q1 q2 q3 q4 q5
        rw [← hfn] at q5
        simp (disch := omega) [-hset_if, -Bool.decide_and, hset_ne]
        exact Next.mk ⟨q + 1 + 1, v4, E4⟩ (by first | omega | (dsimp only; omega)) (by simp (disch := omega) [-hset_if, -Bool.decide_and, hset_ne]; omega) ⟨(by first | omega | (dsimp only; omega)), ⟨q5, fun i hi => by rcases q4 i hi with h | h; exact g2.ne i h; omega, fun i hi => by rw [q3 i (by omega) (fun e => by have := g2.ne i e; omega), hf2 i (by omega), g2.fr i hi], by omega, fun x hx => by
          by_cases e : x = q
          · subst e; rw [hr2, hr]; exact c3
          · exact g2.inc x (by dsimp only at hx; omega)⟩⟩
    · have hk0 : k = 0 := by omega
      subst hk0
      refine AW.draw (X := ⟨_, 40, _, _⟩) (id := 5) mixed (.take 0 <| .take 1 <| .take 2 <| .take 3 <| .take 4 <| .take 5 <| .take 6 <| .take 7 <| .take 8 <| .take 9 <| .take 10 <| .take 11 <| .take 12 <| .done) (by kernel_rfl) ?_
      simp (disch := omega) [-hset_if, -Bool.decide_and, hset_ne, hb2]
      refine ou3.appendS elemS22 zero9 (by simp) hrs (fun s _ => by simp) (by first | omega | (dsimp only; omega)) (by first | omega | (dsimp only; omega)) ?_
      intro v4 n4 H4 E4 q1 q2 q3 q4 q5
      rw [← hfn] at q5
      simp (disch := omega) [-hset_if, -Bool.decide_and, hset_ne]
      exact Next.mk ⟨0 + 1, v4, E4⟩ (by first | omega | (dsimp only; omega)) (by simp (disch := omega) [-hset_if, -Bool.decide_and, hset_ne]) ⟨(by first | omega | (dsimp only; omega)), ⟨q5, fun i hi => by rcases q4 i hi with h | h; exact g2.ne i h; omega, fun i hi => by rw [q3 i (by omega) (fun e => by have := g2.ne i e; omega), hf2 i (by omega), g2.fr i hi], by omega, fun x hx => by dsimp only at hx; omega⟩⟩
  · have hk0 : k = gs.length := by omega
    subst hk0
    have hou := g2.ou
    rw [List.take_length] at hou hfl
    have hinc := incB_yes g2.inc
    have hsl := sortS_len (flatP gs)
    simp (disch := omega) [-hset_if, -Bool.decide_and, hset_ne]
    refine sortS_ok hou (by omega) ?_
    intro H3 e1 e2
    simp (disch := omega) [-hset_if, -Bool.decide_and, hset_ne]
    refine cloneStr_ok (xs := sortS (flatP gs)) e2.sl e2.lt (fun x _ => by simp) (by omega) (by omega) ?_
    intro v4 n4 H4 E4 f1 f2 f3 f4
    simp (disch := omega) [-hset_if, -Bool.decide_and, hset_ne]
    refine Compact_ok f4 (by omega) ?_
    intro v5 H5 h1 h2
    have e5 := e2.sl.frame (H' := H5) (fun i hi => by rw [h1 i (fun e => by have := f3 i e; have := e2.lt i hi; omega), f2 i (e2.lt i hi)])
    have hcl := compS_len (flatP gs)
    simp (disch := omega) [-hset_if, -Bool.decide_and, hset_ne, h2.sl.lenK, e5.lenK, hsl]
    refine Fin_id ?_
    have := hk n4 H5 (by omega) (fun i hi => by rw [h1 i (fun e => by have := f3 i e; omega), f2 i (by omega), e1 i (fun e => by have := g2.ne i e; omega), g2.fr i hi])
    unfold twiceP at this
    rw [hinc, Bool.not_true, Bool.false_or] at this
    have e6 : (((compS (sortS (flatP gs))).length : Int) != ((flatP gs).length : Int)) = !(decide (flatP gs).Nodup) := by
      rw [Bool.eq_iff_iff, bne_iff_ne, Bool.not_eq_true', decide_eq_false_iff_not, ← hcl]
      omega
    rw [← e6] at this
    exact this
end Go.Aw.S15
