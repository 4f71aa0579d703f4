/-
  Chapter 56: the order.
-/
import Derived.Test.YtmppccnafhckoaaS56e
import Derived.Test.YtmppccnafhckoaaS56sh
import Derived.Test.YtmppccnafhckoaaAw18
namespace Go.Aw.S56
open Go.RowKit Go.Proofs Go.Aw.Tab
set_option linter.unusedSimpArgs false
set_option linter.unusedVariables false
set_option maxRecDepth 10000
set_option maxHeartbeats 1000000
set_option pp.deepTerms false
set_option pp.deepTerms.threshold 4
set_option pp.maxSteps 1500
attribute [local simp] Load.cells Sta.cells intC
variable {w0 : World} {n : Nat} {H : Heap} {K : Value → Nat → Heap → Prop} {pv sv ov : Value} {D E F : Nat → Prop} {l : List Load} {s : List Sta} {o : List Int}
theorem reverse_ok {v : Value} {xs : List Int} (ho : OwR ⟨Try.prog, w0⟩ H n E 3 1 intC v xs) (hl : xs.length < 4611686018427387904)
    (hk : ∀ H', (∀ i, ¬ E i → H' i = H i) → OwR ⟨Try.prog, w0⟩ H' n E 3 1 intC v xs.reverse → K (.tuple #[]) n H') : ACall ⟨Try.prog, w0⟩ 50 [v] K n H := by
  refine ACall.sorted (α := Int) (g := intC) (enc := Value.int .i64) (h := id) (h' := id) (fun _ => by rfl) List.reverse (fun _ => by simp) (fun blk cap zs w h1 h2 h3 => ?_) (fun w => ?_) (by simp) (fun y => rfl) (fun _ => rfl) ho hl ?_
  · refine (Try.slices_Reverse_int blk 0 cap zs w h1 (by omega)).mono ?_
    rintro e w' ⟨g1, q, rfl⟩
    exact ⟨g1, q, #[], by rw [Sort.grow_empty]⟩
  · refine (Try.slices_Reverse_int_empty none 0 w).mono ?_
    rintro e w' ⟨h1, h2⟩
    exact ⟨h1, 0, #[], by rw [h2, Sort.grow_empty]; rfl⟩
  · simpa using hk
theorem scmp_ok {x y : ByteArray} (hk : K (.int .i64 (Lib.compareBytes x.data.toList y.data.toList)) n H) : ACall ⟨Try.prog, w0⟩ 56 [.string x, .string y] K n H :=
  ACall.pure (by simp [flat]) rfl (fun w => Try.strings_Compare x y w) hk
/-- What the program compares loads by. -/
def cfL (l : List Load) (i k : Int) : Int := orI [cmpI (at_ l k).pr (at_ l i).pr, cmpI (at_ l k).pw (at_ l i).pw, Lib.compareBytes (at_ l i).nm.data.toList (at_ l k).nm.data.toList]
theorem cfL_neg {i k : Int} : cfL l i k < 0 ↔ B l i k = true := by
  unfold cfL B
  rw [bef_iff]
  have h := cmp_lsB (at_ l i).nm (at_ l k).nm
  unfold cmpI
  simp only [orI]
  by_cases h1 : (at_ l k).pr < (at_ l i).pr
  · simp [h1]
  · by_cases h2 : (at_ l i).pr < (at_ l k).pr
    · simp [h1, h2]; omega
    · have e1 : (at_ l i).pr = (at_ l k).pr := by omega
      by_cases h3 : (at_ l k).pw < (at_ l i).pw
      · simp [e1, h3]
      · by_cases h4 : (at_ l i).pw < (at_ l k).pw
        · simp [e1, h3, h4]; omega
        · have e2 : (at_ l i).pw = (at_ l k).pw := by omega
          simp [e1, e2]
          by_cases hz : Lib.compareBytes (at_ l i).nm.data.toList (at_ l k).nm.data.toList = 0
          · rw [if_pos hz, ← h, hz]
          · rw [if_neg hz, h]
theorem closure_ok {W : World} {b : Nat} {u : Value} {i k : Int} (hW : W.cell? ⟨b, 0, none⟩ = some u) (hs : ∀ G, SlR ⟨Try.prog, W⟩ G (fun _ => False) 5 Load.cells (emb u) l) (hi : 0 ≤ i ∧ i < l.length) (hk : 0 ≤ k ∧ k < l.length) :
    ACall ⟨Try.prog, W⟩ 52 [.int .i64 i, .int .i64 k, .pointer (some ⟨old b, 0, none⟩)] (fun r _ _ => r = .int .i64 (cfL l i k)) 0 (fun _ => .dead) := by
  have hld := fun G h1 h2 => (hs G).load0 shp42 (z := i) (by omega) (by omega) h1 h2
  have hld2 := fun G h1 h2 => (hs G).load0 shp42 (z := k) (by omega) (by omega) h1 h2
  refine ACall.run Try.func52 rfl Try.ntmps52 Try.results52 (by simp) fun J0 => ?_
  simp (disch := omega) [-hset_if, -Bool.decide_and, hset_ne]
  refine AW.draw (X := ⟨_, 33, _, _⟩) (id := 1) mixed (.take 0 <| .take 1 <| .take 2 <| .take 3 <| .take 4 <| .take 5 <| .take 6 <| .take 7 <| .each 8 [0, 1, 2, 3, 4, 5, 6, 7] (.each 9 [0, 1, 2, 3, 4, 5, 6, 7] (.each 10 [4, 5, 6, 7] (.each 11 [] (.done) <| .stop) <| .stop) <| .stop) <| .each 9 [0, 1, 2, 3, 4, 5, 6, 7] (.each 8 [0, 1, 2, 3, 4, 5, 6, 7] (.each 10 [4, 5, 6, 7] (.each 11 [] (.done) <| .stop) <| .stop) <| .stop) <| .stop) (by kernel_rfl) ?_
  simp (disch := omega) [-hset_if, -Bool.decide_and, hset_ne, hW, (hs (fun _ => .dead)).ix elemS22, hi, hk, hld, hld2]
  refine ⟨?_, ?_⟩
  · refine AW.draw (X := ⟨_, 33, _, _⟩) (id := 2) mixed (.take 0 <| .take 1 <| .take 2 <| .take 3 <| .take 5 <| .take 6 <| .take 7 <| .take 8 <| .take 10 <| .take 11 <| .take 12 <| .take 13 <| .each 4 [5, 6, 7, 8, 10, 11, 12, 13] (.each 9 [10, 11, 12, 13] (.each 14 [] (.each 15 [] (.each 16 [] (.take 17 <| .done) <| .stop) <| .stop) <| .stop) <| .stop) <| .stop) (by kernel_rfl) ?_
    simp (disch := omega) [-hset_if, -Bool.decide_and, hset_ne]
    refine cmp_ok ?_
    simp (disch := omega) [-hset_if, -Bool.decide_and, hset_ne]
    refine cmp64_ok ?_
    simp (disch := omega) [-hset_if, -Bool.decide_and, hset_ne]
    refine scmp_ok ?_
    have hR0 : (List.range 3)[0]? = some 0 := by decide
    have hR1 : (List.range 3)[1]? = some 1 := by decide
    have hR2 : (List.range 3)[2]? = some 2 := by decide
    simp (disch := omega) [-hset_if, -Bool.decide_and, hset_ne, hR0, hR1, hR2]
    refine or_ok (xs := [cmpI (at_ l k).pr (at_ l i).pr, cmpI (at_ l k).pw (at_ l i).pw, Lib.compareBytes (at_ l i).nm.data.toList (at_ l k).nm.data.toList]) (D := (· = 2)) ?_ ?_ (by simp) ?_
    · exact (OwR.lit (n := 3) (T := 3) (j := 2) (by omega) (by simp) (by omega) (by simp (disch := omega) [-hset_if, -Bool.decide_and, hset_ne]) rfl (by simp)).sl
    · intro i hi; subst hi; omega
    simp (disch := omega) [-hset_if, -Bool.decide_and, hset_ne]
    exact Fin_id rfl
  · refine AW.draw (X := ⟨_, 33, _, _⟩) (id := 2) mixed (.take 0 <| .take 1 <| .take 2 <| .take 3 <| .take 5 <| .take 6 <| .take 7 <| .take 8 <| .take 10 <| .take 11 <| .take 12 <| .take 13 <| .each 4 [5, 6, 7, 8, 10, 11, 12, 13] (.each 9 [10, 11, 12, 13] (.each 14 [] (.each 15 [] (.each 16 [] (.take 17 <| .done) <| .stop) <| .stop) <| .stop) <| .stop) <| .stop) (by kernel_rfl) ?_
    simp (disch := omega) [-hset_if, -Bool.decide_and, hset_ne]
    refine cmp_ok ?_
    simp (disch := omega) [-hset_if, -Bool.decide_and, hset_ne]
    refine cmp64_ok ?_
    simp (disch := omega) [-hset_if, -Bool.decide_and, hset_ne]
    refine scmp_ok ?_
    have hR0 : (List.range 3)[0]? = some 0 := by decide
    have hR1 : (List.range 3)[1]? = some 1 := by decide
    have hR2 : (List.range 3)[2]? = some 2 := by decide
    simp (disch := omega) [-hset_if, -Bool.decide_and, hset_ne, hR0, hR1, hR2]
    refine or_ok (xs := [cmpI (at_ l k).pr (at_ l i).pr, cmpI (at_ l k).pw (at_ l i).pw, Lib.compareBytes (at_ l i).nm.data.toList (at_ l k).nm.data.toList]) (D := (· = 2)) ?_ ?_ (by simp) ?_
    · exact (OwR.lit (n := 3) (T := 3) (j := 2) (by omega) (by simp) (by omega) (by simp (disch := omega) [-hset_if, -Bool.decide_and, hset_ne]) rfl (by simp)).sl
    · intro i hi; subst hi; omega
    simp (disch := omega) [-hset_if, -Bool.decide_and, hset_ne]
    exact Fin_id rfl
/-- The index of a load. -/
abbrev Ix (l : List Load) := { i : Nat // i < l.length }
def encX (x : Ix l) : Value := .int .i64 (x.val : Int)
def cfX (l : List Load) (x y : Ix l) : Int := cfL l x.val y.val
theorem ltX {x y : Ix l} : ltOf (cfX l) x y = B l x.val y.val := by
  rw [Bool.eq_iff_iff, ltOf, decide_eq_true_iff]; exact cfL_neg
theorem swoX (h : chk l = 0) : Sort.SWO (ltOf (cfX l)) := by
  have ht : ∀ x y : Ix l, x ≠ y → B l x.val y.val = true ∨ B l y.val x.val = true := fun x y hne =>
    bef_tot (chk_names h ⟨by omega, by have := x.2; omega⟩ ⟨by omega, by have := y.2; omega⟩ (fun e => hne (Subtype.ext (by omega))))
  refine ⟨fun x => ?_, fun x y z h1 h2 => ?_, fun x y z h1 h2 => ?_⟩
  · rw [ltX]; exact bef_irr _
  · rw [ltX] at *; exact B_trans h1 h2
  · rw [ltX] at *
    rw [← Bool.not_eq_true] at *
    intro h3
    by_cases e1 : x = y
    · subst e1; exact h2 h3
    by_cases e2 : y = z
    · subst e2; exact h1 h3
    rcases ht x y e1 with c | c
    · exact h1 c
    rcases ht y z e2 with d | d
    · exact h2 d
    exact B_asym h3 (B_trans d c)
theorem totX (h : chk l = 0) (x y : Ix l) (h1 : ltOf (cfX l) x y = false) (h2 : ltOf (cfX l) y x = false) : x = y := by
  rw [ltX] at h1 h2
  refine Decidable.byContradiction fun hne => ?_
  rcases bef_tot (chk_names h (i := (x.val : Int)) (k := (y.val : Int)) ⟨by omega, by have := x.2; omega⟩ ⟨by omega, by have := y.2; omega⟩ (fun e => hne (Subtype.ext (by omega)))) with c | c
  · unfold B at h1; rw [h1] at c; cases c
  · unfold B at h2; rw [h2] at c; cases c
def srtX (l : List Load) (zs : List (Ix l)) : List (Ix l) := zs.mergeSort fun x y => !(ltOf (cfX l)) y x
def rngX (l : List Load) : List (Ix l) := (List.range l.length).attach.map fun i => ⟨i.1, List.mem_range.1 i.2⟩
theorem rngX_map : (rngX l).map (fun x => (x.val : Int)) = (List.range l.length).map fun i : Nat => (i : Int) := by
  unfold rngX
  rw [List.map_map]
  conv => rhs; rw [← List.attach_map_subtype_val (List.range l.length), List.map_map]
  rfl
theorem srtX_ord (h : chk l = 0) : (srtX l (rngX l)).map (fun x => (x.val : Int)) = ordR l := by
  have hp : (srtX l (rngX l)).Perm (rngX l) := List.mergeSort_perm _ _
  have hnd : ((srtX l (rngX l)).map (fun x => (x.val : Int))).Perm ((List.range l.length).map fun i : Nat => (i : Int)) := by
    rw [← rngX_map]; exact hp.map _
  refine perm_sorted (R := fun a b => B l a b = true) (fun _ _ => B_asym) (hnd.trans (ordF_perm _).symm) ?_ (ordF_sorted h _ (Nat.le_refl _))
  have hO := swoX h
  have hs : (srtX l (rngX l)).Pairwise (fun x y => (!(ltOf (cfX l)) y x) = true) := by
    refine List.pairwise_mergeSort (fun a b c h1 h2 => ?_) (fun a b => ?_) _
    · simp only [Bool.not_eq_true'] at *
      exact hO.ntrans _ _ _ h2 h1
    · rw [Bool.or_eq_true, Bool.not_eq_true', Bool.not_eq_true']
      cases hc : ltOf (cfX l) b a with
      | false => exact .inl rfl
      | true =>
        right
        rw [ltX] at hc ⊢
        rw [← Bool.not_eq_true]; exact B_asym hc
  have hn : ((srtX l (rngX l)).map (fun x => (x.val : Int))).Nodup := by
    refine hnd.nodup_iff.2 (List.Pairwise.map _ (fun a b (h : a ≠ b) => ?_) List.nodup_range)
    omega
  rw [List.pairwise_map]
  rw [List.Nodup, List.pairwise_map] at hn
  refine (hs.and hn).imp fun {x y} hxy => ?_
  obtain ⟨h1, h2⟩ := hxy
  rw [Bool.not_eq_true', ltX] at h1
  rcases bef_tot (chk_names h (i := (x.val : Int)) (k := (y.val : Int)) ⟨by omega, by have := x.2; omega⟩ ⟨by omega, by have := y.2; omega⟩ h2) with c | c
  · exact c
  · unfold B at h1; rw [h1] at c; cases c
theorem OwR_map {α β : Type} {C : Ctx} {H : Heap} {n : Nat} {D : Nat → Prop} {T sz : Nat} {f : β → List Value} {g : α → β} {v : Value} {xs : List α} : OwR C H n D T sz f v (xs.map g) ↔ OwR C H n D T sz (fun x => f (g x)) v xs := by
  constructor
  · rintro ⟨h1, h2, h3⟩
    refine ⟨h1, fun x hx => h2 _ (List.mem_map_of_mem hx), ?_⟩
    rw [List.length_map, List.map_eq_nil_iff, List.flatMap_map] at h3
    exact h3
  · rintro ⟨h1, h2, h3⟩
    refine ⟨h1, fun y hy => ?_, ?_⟩
    · obtain ⟨x, hx, rfl⟩ := List.mem_map.1 hy; exact h2 x hx
    · rw [List.length_map, List.map_eq_nil_iff, List.flatMap_map]
      exact h3
theorem flatL : ∀ x ∈ l, ∀ u ∈ Load.cells x, flat u = true := by
  intro x _ v hv
  simp only [Load.cells, List.mem_cons, List.not_mem_nil, or_false] at hv
  rcases hv with rfl | rfl | rfl | rfl | rfl <;> rfl
theorem sortX_ok {v : Value} (hc : chk l = 0) (hpos : 0 < l.length) {m : Nat} (hm : m < n) (hmE : ¬ E m) (hH : H m = .cells [pv] 22 1) (hs : SlR ⟨Try.prog, w0⟩ H D 5 Load.cells pv l) (hD : ∀ i, D i → i < n ∧ ¬ E i)
    (ho : OwR ⟨Try.prog, w0⟩ H n E 3 1 intC v ((List.range l.length).map fun i : Nat => (i : Int)))
    (hk : ∀ H', (∀ i, ¬ E i → H' i = H i) → OwR ⟨Try.prog, w0⟩ H' n E 3 1 intC v (ordR l) → K (.tuple #[]) n H') : ACall ⟨Try.prog, w0⟩ 51 [v, .func (.func 52) #[] #[.pointer (some ⟨new m, 0, none⟩)]] K n H := by
  have hl64 := chk_len hc
  haveI : Inhabited (Ix l) := ⟨⟨0, hpos⟩⟩
  rw [← rngX_map, OwR_map] at ho
  refine ACall.sortedF (α := Ix l) (β := Ix l) (g := 52) (caps := [.pointer (some ⟨new m, 0, none⟩)]) (enc := encX) (h := id) (h' := id) (fun _ => rfl) (cfX l) (srtX l) (fun zs => List.length_mergeSort _) (fun blk cap zs cb w h1 h2 h3 h4 => ?_) (fun cb w => Try.slices_SortFunc_none (α := Ix l) none 0 _ w) (by simp [srtX]) (gs := fun x => intC (x.val : Int)) (fun y => rfl) (fun _ => rfl) ho (by unfold rngX; simp; omega) ?_ ?_
  · refine (Try.slices_SortFunc_total encX (fun _ => rfl) (cfX l) (swoX hc) 52 cb blk 0 cap zs.toArray w (fun args w => entB_run (by kernel_rfl) args w) (by simpa using h4) h1 h2 (by simpa using h3) (totX hc)).mono ?_
    rintro e w' ⟨g1, q, os, g2⟩
    exact ⟨g1, q, os, g2⟩
  · intro J W hv _ x y
    obtain ⟨u, hu⟩ : ∃ u, u = ren J pv := ⟨_, rfl⟩
    have hW : W.cell? ⟨(J m).1, 0, none⟩ = some u := by
      have := hv ⟨new m, 0, none⟩ pv (fun _ => by simp only [new_half]; exact hm) (fun _ => by simp only [new_half]; exact hmE) (by rw [get_new, hH]; rfl)
      rw [hu]; simpa [renA] using this
    have hs2 : ∀ G, SlR ⟨Try.prog, W⟩ G (fun _ => False) 5 Load.cells (emb u) l := fun G => by
      rw [hu]; exact hv.sl hs hD flatL
    have := closure_ok hW hs2 (i := (x.val : Int)) (k := (y.val : Int)) ⟨by omega, by have := x.2; omega⟩ ⟨by omega, by have := y.2; omega⟩
    have e : ([encX x, encX y] ++ [Value.pointer (some ⟨new m, 0, none⟩)].map (trV J)) = [.int .i64 (x.val : Int), .int .i64 (y.val : Int), .pointer (some ⟨old (J m).1, 0, none⟩)] := by
      simp only [List.map_cons, List.map_nil, trV_ptr, trA_new]; rfl
    rw [e]; exact this
  · intro H' e1 e2
    refine hk H' e1 ?_
    rw [List.map_id, List.map_id, ← OwR_map (g := fun x : Ix l => (x.val : Int)), srtX_ord hc] at e2
    exact e2
theorem sortNone {a : Addr} {fv : Value} {c : Nat} (hk : K (.tuple #[]) n H) : ACall ⟨Try.prog, w0⟩ 51 [.slice (some a) 0 c, fv] K n H := by
  refine ACall.unit (r := .tuple #[]) (fun J w => ?_) (.inr rfl) hk
  have e : ([Value.slice (some a) 0 c, fv].map (ren J)).toArray = #[.slice (some (renA J a)) 0 (c + (dec J a.block).2), ren J fv] := by
    have := ren_slice_map J (some a) 0 c
    simp only [List.map_cons, List.map_nil, this, Option.map_some, Option.elim_some]
  rw [e]
  exact Try.slices_SortFunc_none (α := Nat) _ _ _ w
theorem tk24' : tk Try.prog 24 = .slice := by kernel_rfl
/-- The program's order. -/
theorem order_ok (hc : chk l = 0) (hs : SlR ⟨Try.prog, w0⟩ H D 5 Load.cells pv l) (hD : ∀ i, D i → i < n)
    (hk : ∀ v n' H' E, n ≤ n' → (∀ i, i < n → H' i = H i) → (∀ i, E i → n ≤ i ∧ i < n') → OwR ⟨Try.prog, w0⟩ H' n' E 3 1 intC v (ordR l) → K v n' H') : ACall ⟨Try.prog, w0⟩ 34 [pv] K n H := by
  have hl64 := chk_len hc
  refine ACall.run Try.func34 rfl Try.ntmps34 Try.results34 (by simp) fun J0 => ?_
  simp (disch := omega) [-hset_if, -Bool.decide_and, hset_ne]
  have hs1 : ∀ o, SlR ⟨Try.prog, w0⟩ (hset n o H) D 5 Load.cells pv l := fun o => hs.frame (fun i hi => by have := hD i hi; rw [hset_ne (by omega)])
  have hlk := hs.lenK
  have hcl := hs.cells
  simp (disch := omega) [-hset_if, -Bool.decide_and, hset_ne, hlk, hcl]
  have ho := OwR.made (C := ⟨Try.prog, w0⟩) (f := intC) (x := (0 : Int)) (z := [.int .i64 0]) (T := 3) (sz := 1) (n := n + 1 + 1) (j := n + 1) (m := l.length) (H := hset (n + 1) (.cells (reps l.length [.int .i64 0]) 3 1) (hset n (.cells [pv] 22 1) H)) rfl (by omega) rfl (by omega) (hset_same _ _ _)
  have hg0 : hset (n + 1) (.cells (reps l.length [.int .i64 0]) 3 1) (hset n (.cells [pv] 22 1) H) n = .cells [pv] 22 1 := by rw [hset_ne (by omega), hset_same]
  have hg1 : ∀ i, i < n → hset (n + 1) (.cells (reps l.length [.int .i64 0]) 3 1) (hset n (.cells [pv] 22 1) H) i = H i := fun i hi => by rw [hset_ne (by omega), hset_ne (by omega)]
  generalize hset (n + 1) (.cells (reps l.length [.int .i64 0]) 3 1) (hset n (.cells [pv] 22 1) H) = G at ho hg0 hg1 ⊢
  generalize hvv : Value.slice (some ⟨new (n + 1), 0, none⟩) l.length l.length = v at ho ⊢
  have hvl : lenK .slice v = some (l.length : Int) := by rw [← hvv]; rfl
  simp (disch := omega) [-hset_if, -Bool.decide_and, hset_ne, hvl]
  refine ⟨by omega, ?_⟩
  refine AW.while (σ := Nat × List Int) (fun s => l.length - s.1) (fun s => [(1, .pointer (some ⟨new n, 0, none⟩)), (3, v), (9, .int .i64 l.length), (10, .int .i64 (s.1 : Int))])
    (fun s n1 H1 => n1 = n + 1 + 1 ∧ (∀ i, ¬ i = n + 1 → H1 i = G i) ∧ s.1 ≤ l.length ∧ s.2.length = l.length ∧ OwR ⟨Try.prog, w0⟩ H1 n1 (· = n + 1) 3 1 intC v s.2 ∧ s.2.take s.1 = (List.range s.1).map fun i : Nat => (i : Int)) (0, List.replicate l.length 0) ?_ ?_ ?_
  · simp (disch := omega) [-hset_if, -Bool.decide_and, hset_ne]
  · exact ⟨rfl, fun _ _ => rfl, by simp, by simp, ho, by simp⟩
  rintro ⟨j, ys⟩ n1 H1 ⟨rfl, g2, g3, g4, g5, g6⟩
  dsimp only at g3 g4 g5 g6 ⊢
  simp (disch := omega) [-hset_if, -Bool.decide_and, hset_ne]
  refine cif_dec (fun h => ?_) (fun h => ?_)
  · have hjy : (j : Int) < ys.length := by omega
    simp (disch := omega) [-hset_if, -Bool.decide_and, hset_ne, g5.sl.ix elemS24, hjy]
    refine g5.store0 shp3 (by omega) (by omega) (j : Int) (by simp) (by simp) (by simp) ?_
    intro H2 f1 f2
    simp (disch := omega) [-hset_if, -Bool.decide_and, hset_ne]
    refine Next.mk (j + 1, ys.set j (j : Int)) (by first | omega | (dsimp only; omega)) (by simp (disch := omega) [-hset_if, -Bool.decide_and, hset_ne]) ⟨rfl, fun i hi => by rw [f1 i hi, g2 i hi], (by first | omega | (dsimp only; omega)), (by dsimp only; rw [List.length_set]; exact g4), by simpa using f2, ?_⟩
    dsimp only
    rw [List.take_succ_eq_append_getElem (by simp; omega), List.range_succ, List.map_append, ← g6]
    simp [List.take_set_of_le]
  · have hjl : j = l.length := by omega
    have e : ys = (List.range l.length).map fun i : Nat => (i : Int) := by rw [← hjl, ← g6, List.take_of_length_le (by omega)]
    rw [e] at g5
    have hent : entB Try.prog 51 = true := by kernel_rfl
    simp (disch := omega) [-hset_if, -Bool.decide_and, hset_ne]
    by_cases hpos : 0 < l.length
    · refine sortX_ok hc hpos (m := n) (by omega) (by omega) (by rw [g2 n (by omega), hg0]) (hs.frame (fun i hi => by have := hD i hi; rw [g2 i (by omega), hg1 i this])) (fun i hi => by have := hD i hi; omega) g5 ?_
      intro H2 f1 f2
      simp (disch := omega) [-hset_if, -Bool.decide_and, hset_ne]
      refine Fin_id ?_
      exact hk _ _ _ _ (by omega) (fun i hi => by rw [f1 i (by omega), g2 i (by omega), hg1 i hi]) (fun i hi => by omega) f2
    · have hnil : l = [] := List.eq_nil_of_length_eq_zero (by omega)
      subst hnil
      rw [← hvv] at g5 ⊢
      refine sortNone ?_
      simp (disch := omega) [-hset_if, -Bool.decide_and, hset_ne]
      refine Fin_id ?_
      exact hk _ _ _ _ (by omega) (fun i hi => by rw [g2 i (by omega), hg1 i hi]) (fun i hi => by omega) g5
end Go.Aw.S56
