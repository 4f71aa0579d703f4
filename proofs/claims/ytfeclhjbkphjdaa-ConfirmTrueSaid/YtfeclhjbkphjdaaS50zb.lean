/-
  Chapter 50: the law of true outcomes, its walk.
-/
import Derived.Test.YtfeclhjbkphjdaaS50za
namespace Go.Aw.S50
open Go.RowKit Go.Proofs Go.Aw.Tab
set_option linter.unusedSimpArgs false
set_option linter.unusedVariables false
set_option maxRecDepth 10000
set_option maxHeartbeats 2000000
set_option pp.deepTerms false
set_option pp.deepTerms.threshold 4
set_option pp.maxSteps 1500
variable {w0 : World} {n : Nat} {H : Heap} {K : Value → Nat → Heap → Prop} {pv : Value} {D0 : Nat → Prop} {l : List Opn}
attribute [local simp] Ans.cells Ask.cells Opn.cells Wt.cells Qt.cells intC NS.cells
def DSz (p : NP) : Prop := ∀ q ∈ p.data, q.2.size ≤ 400
theorem serveP_data (p : NP) (a : Ask) : (serveP p a).data = p.data := by
  unfold serveP
  split
  · rfl
  split <;> rfl
theorem DSz.step {p : NP} (h : DSz p) (kind which : Int) (data : ByteArray) : DSz (stepP p kind which data) := by
  unfold stepP
  split
  · unfold sendN
    split
    · rename_i e
      intro q hq
      rcases List.mem_append.1 hq with hq | hq
      · exact h q hq
      · simp only [List.mem_cons, List.not_mem_nil, or_false] at hq
        rw [hq]
        unfold sendP at e
        split at e
        · simp at e
        · dsimp only; omega
    · exact h
  split
  · exact h
  split
  · unfold askN
    split
    · exact h
    dsimp only
    split
    · unfold DSz
      rw [serveP_data]
      split <;> exact h
    · split <;> exact h
  split
  · unfold ansN
    split
    · exact h
    dsimp only
    split
    · split <;> exact h
    · split <;> exact h
  split <;> exact h
theorem dOf_size {d : List (Int × ByteArray)} (h : ∀ q ∈ d, q.2.size ≤ 400) (i : Int) : (dOf d i).size ≤ 400 := by
  unfold dOf
  cases hf : d.find? (fun q => decide (i = q.1)) with
  | none => exact (by decide : (⟨#[]⟩ : ByteArray).size ≤ 400)
  | some q => exact h q (List.mem_of_find?_eq_some hf)
theorem lk_dt (l : List (Int × ByteArray)) (i : Int) : lkG false (.string ⟨#[]⟩) ((l.map dtV).find? fun p => decide (i = p.1)) = .string (dOf l i) := by
  unfold dOf
  rw [List.find?_map]
  have e : ((fun p : Int × Value => decide (i = p.1)) ∘ dtV) = fun q => decide (i = q.1) := by funext q; rfl
  rw [e]
  cases l.find? (fun q => decide (i = q.1)) with
  | none => rfl
  | some q => rfl
structure TI1 (H : Heap) (w0 : World) (n n1 N : Nat) (j : Nat) : Prop where
  ex : ∃ p, NetX H w0 n n1 N p ∧ Fit p j ∧ Cnt p ∧ Tr p ∧ DSz p
def sameA (y a : Ans) : Bool := decide (y.boot = a.boot ∧ y.inv = a.inv ∧ y.code = a.code ∧ y.data = a.data)
theorem sameA_self (a : Ans) : sameA a a = true := by simp [sameA]
def seenV (l : List Ans) : List (Int × Value) := l.map fun x => (x.inv, .bool true)
structure TI2 (H : Heap) (w0 : World) (n n1 N : Nat) (s : NS) (k : Nat) (x : Value) (G : Nat → Prop) (j : Nat) : Prop where
  ex : ∃ col, NetR H w0 n n1 N col s ∧ col k = 7 ∧ k < n1 ∧ (∀ i, G i → i ≠ k ∧ col i = 7)
  ls : OwR ⟨Try.prog, w0⟩ H n1 G 33 4 Ans.cells x s.c.done
  mp : MapG intK H k (seenV (s.c.done.take j))
theorem TI2.al {n1 N k j : Nat} {s : NS} {x : Value} {G : Nat → Prop} (h : TI2 H w0 n n1 N s k x G j) {n' : Nat} {H' : Heap} (h1 : n1 ≤ n') (h2 : ∀ i, i < n1 → H' i = H i) : TI2 H' w0 n n' N s k x G j := by
  obtain ⟨⟨col, g, c1, c2, c3⟩, h3, h4⟩ := h
  refine ⟨⟨ext n1 7 col, g.al h1 (fun i hi _ => h2 i hi), ?_, by omega, fun i hi => ⟨(c3 i hi).1, ?_⟩⟩, h3.frame h1 (fun i hi => h2 i (h3.lt i hi)), h4.frame (h2 k c2)⟩
  · unfold ext; rw [if_pos c2]; exact c1
  · unfold ext; rw [if_pos (h3.lt i hi)]; exact (c3 i hi).2
theorem seen_new {l : List Ans} (h : (l.map (·.inv)).Nodup) {j : Nat} (hj : j < l.length) : ∀ q ∈ seenV (l.take j), q.1 ≠ (at_ l (j : Int)).inv := by
  intro q hq
  obtain ⟨x, hx, rfl⟩ := List.mem_map.1 hq
  have e : l = l.take j ++ at_ l (j : Int) :: l.drop (j + 1) := by rw [← drop_at hj, List.take_append_drop]
  rw [e, List.map_append, List.map_cons, List.nodup_append] at h
  exact h.2.2 _ (List.mem_map_of_mem hx) _ List.mem_cons_self
theorem take_at {l : List Ans} {j : Nat} (hj : j < l.length) : l.take (j + 1) = l.take j ++ [at_ l (j : Int)] := by
  rw [at_nat hj, List.take_append_getElem hj]
theorem seen_next {l : List Ans} {j : Nat} (hj : j < l.length) : seenV (l.take (j + 1)) = seenV (l.take j) ++ [((at_ l (j : Int)).inv, .bool true)] := by
  unfold seenV
  rw [take_at hj, List.map_append]
  rfl
theorem same_all {l : List Ans} {a : Ans} (h : a ∈ l) : (l.take l.length).any (fun y => sameA y a) = true := by
  rw [List.take_length, List.any_eq_true]
  exact ⟨a, h, sameA_self a⟩
theorem same_next {l : List Ans} {a : Ans} {j : Nat} (hj : j < l.length) : (l.take (j + 1)).any (fun y => sameA y a) = ((l.take j).any (fun y => sameA y a) || sameA (at_ l (j : Int)) a) := by
  rw [take_at hj, List.any_append]
  simp
theorem seen_pend {c : Cl} (h : (allInv c).Nodup) {i : Int} (hi : i ∈ invs c.opn) {k : Nat} : ∀ q ∈ seenV (c.done.take k), q.1 ≠ i := by
  intro q hq
  obtain ⟨x, hx, rfl⟩ := List.mem_map.1 hq
  unfold allInv at h
  rw [List.nodup_append] at h
  exact fun e => h.2.2 _ hi _ (List.mem_map_of_mem (List.mem_of_mem_take hx)) e.symm
theorem True_ok {a b : Int} (hs : SlR ⟨Try.prog, w0⟩ H D0 11 Opn.cells pv l) (hD : ∀ i, D0 i → i < n) (hcl : ∀ o ∈ l, -9223372036854775808 ≤ o.client ∧ o.client ≤ 9223372036854775807) (hr : Res n H K (.bool true)) : ACall ⟨Try.prog, w0⟩ 6 [.int .i64 a, .int .i64 b, pv] K n H := by
  refine ACall.run Try.func6 rfl Try.ntmps6 Try.results6 (by simp) fun J0 => ?_
  simp (disch := omega) [-hset_if, -Bool.decide_and, hset_ne]
  refine awake_ok ?_
  have hP0 : IntKind.i64.wrap ((IntKind.u64.wrap a).tmod 5) = a % 18446744073709551616 % 5 := by
    rw [u64w, Int.tmod_eq_emod_of_nonneg (by omega), i64w (by omega) (by omega)]
  have hR0 : IntKind.i64.wrap ((IntKind.u64.wrap b).tmod 4) = b % 18446744073709551616 % 4 := by
    rw [u64w, Int.tmod_eq_emod_of_nonneg (by omega), i64w (by omega) (by omega)]
  obtain ⟨P, hP, hP1⟩ : ∃ P : Int, 1 + a % 18446744073709551616 % 5 = P ∧ 1 ≤ P ∧ P ≤ 5 := ⟨_, rfl, by omega⟩
  obtain ⟨R, hR, hR1⟩ : ∃ R : Int, b % 18446744073709551616 % 4 = R ∧ 0 ≤ R ∧ R ≤ 3 := ⟨_, rfl, by omega⟩
  simp (disch := omega) [-hset_if, -Bool.decide_and, hset_ne, hP0, hR0, hP, hR]
  have hnc : ncOk P R := by unfold ncOk; omega
  refine start_ok hnc ?_
  intro n1 H1 N a1 a2 hX
  simp (disch := omega) [-hset_if, -Bool.decide_and, hset_ne]
  refine small_ok (hs.frame (fun i hi => a2 i (hD i hi))) ?_
  simp (disch := omega) [-hset_if, -Bool.decide_and, hset_ne]
  refine cif_var (fun h0 => ?_) (fun h0 => ?_)
  rotate_left
  · simp (disch := omega) [-hset_if, -Bool.decide_and, hset_ne]
    exact hr.fin rfl a1 a2
  have hl80 : l.length ≤ 80 := by unfold smallB at h0; simp at h0; omega
  simp (disch := omega) [-hset_if, -Bool.decide_and, hset_ne]
  refine AW.while (σ := Nat) (fun j => l.length - j) (fun j => [(2, pv), (7, .pointer (some ⟨new N, 0, none⟩)), (8, .int .i64 (j : Int))])
    (fun j n3 H3 => j ≤ l.length ∧ (∀ i, i < n → H3 i = H i) ∧ TI1 H3 w0 n n3 N j) 0 ?_ ?_ ?_
  · simp (disch := omega) [-hset_if, -Bool.decide_and, hset_ne]
  · exact ⟨by omega, a2, ⟨_, hX, Fit.start hnc, rfl, Tr.start _ _, by intro q hq; simp [startP] at hq⟩⟩
  rintro j n3 H3 ⟨g1, g2, ⟨p, g3, g4, g5, g6, g7⟩⟩
  have hs3 : SlR ⟨Try.prog, w0⟩ H3 D0 11 Opn.cells pv l := hs.frame (fun i hi => g2 i (hD i hi))
  have hle3 : n ≤ n3 := by obtain ⟨_, _, g, _⟩ := g3; exact g.le
  simp (disch := omega) [-hset_if, -Bool.decide_and, hset_ne, hs3.lenK]
  refine cif_dec (fun c1 => ?_) (fun c1 => ?_)
  · have hcj := hcl _ (at_mem (l := l) (j := j) (by omega))
    refine AW.draw (X := ⟨_, 165, _, _⟩) (id := 11) mixed (.take 0 <| .take 1 <| .take 2 <| .take 3 <| .take 4 <| .take 5 <| .take 6 <| .take 7 <| .take 8 <| .take 9 <| .take 10 <| .take 11 <| .take 12 <| .take 13 <| .take 14 <| .take 15 <| .each 16 [] (.take 17 <| .done) <| .stop) (by kernel_rfl) ?_
    simp (disch := omega) [-hset_if, -Bool.decide_and, hset_ne, hs3.ix elemS22, hs3.load0 shp3, hs3.load shp3, hs3.load shp9]
    refine step_ok g3 g4 (by omega) hcj ?_
    intro n4 H4 e1 e2 e3
    simp (disch := omega) [-hset_if, -Bool.decide_and, hset_ne]
    exact Next.mk (j + 1) (by first | omega | (dsimp only; omega)) (by simp (disch := omega) [-hset_if, -Bool.decide_and, hset_ne]) ⟨by omega, fun i hi => by rw [e2 i hi, g2 i hi], ⟨_, e3, g4.step _ _ _, g5.step _ _ _, g6.step _ _ _ ⟨by have := g4.asks; omega, by have := g4.answers; omega⟩ hcj, g7.step _ _ _⟩⟩
  have hjl : j = l.length := by omega
  subst hjl
  obtain ⟨col, s, g, rfl⟩ := g3
  have g7' : ∀ q ∈ s.data, q.2.size ≤ 400 := g7
  have hdl : s.c.done.length ≤ 100 := by have := g4.c.len; simp only [NS.p] at this; omega
  have hgl : s.given.length ≤ 100 := by have := g4.given; simp only [NS.p] at this; omega
  have hol : s.c.opn.length ≤ 16 := g4.c.most
  have gA := g.al (n' := n3 + 1) (H' := hset n3 (.map [] 0) H3) (by omega) (fun i hi _ => hset_ne (by omega) _ _)
  have hkA : ext n3 7 col n3 = 7 := by unfold ext; rw [if_neg (by omega)]
  generalize ext n3 7 col = colA at *
  have hmA : MapG intK (hset n3 (.map [] 0) H3) n3 (seenV (s.c.done.take 0)) := MapG.new0 (c := 0) (hset_same _ _ _)
  have fA : ∀ i, i < n → hset n3 (.map [] 0) H3 i = H i := fun i hi => by rw [hset_ne (by omega), g2 i hi]
  have hselfA := gA.self
  simp (disch := omega) [-hset_if, -Bool.decide_and, hset_ne, hselfA]
  refine Done_ok gA.cli (by omega) ?_
  intro n4 H4 x4 G4 b1 b2 b3 b4
  have g4' := gA.al b1 (fun i hi _ => b2 i hi)
  have f4 : ∀ i, i < n → H4 i = H i := fun i hi => by rw [b2 i (by omega), fA i hi]
  have kt0 : TI2 H4 w0 n n4 N s n3 x4 G4 0 := by
    refine ⟨⟨_, g4', ?_, by omega, fun i hi => ⟨?_, ?_⟩⟩, b3, hmA.frame (b2 _ (by omega))⟩
    · unfold ext; rw [if_pos (by omega)]; exact hkA
    · have := b4 i hi; omega
    · have := b4 i hi; unfold ext; rw [if_neg (by omega)]
  simp (disch := omega) [-hset_if, -Bool.decide_and, hset_ne]
  refine AW.while (σ := Nat) (fun j => s.c.done.length - j) (fun j => [(7, .pointer (some ⟨new N, 0, none⟩)), (9, .map (some (new n3))), (10, x4), (11, .int .i64 (j : Int))])
    (fun j n5 H5 => j ≤ s.c.done.length ∧ (∀ i, i < n → H5 i = H i) ∧ TI2 H5 w0 n n5 N s n3 x4 G4 j) 0 ?_ ?_ ?_
  · simp (disch := omega) [-hset_if, -Bool.decide_and, hset_ne]
  · exact ⟨by omega, f4, kt0⟩
  rintro j n5 H5 ⟨k1, k2, kt⟩
  have how := kt.ls
  have hle5 : n ≤ n5 := by obtain ⟨⟨_, g, _⟩, _, _⟩ := kt; exact g.le
  simp (disch := omega) [-hset_if, -Bool.decide_and, hset_ne, how.sl.lenK]
  refine cif_dec (fun c2 => ?_) (fun c2 => ?_)
  · have hnd : (s.c.done.map (·.inv)).Nodup := by have := g6.nd; unfold allInv at this; exact (List.nodup_append.1 this).2.1
    have hjl : j < s.c.done.length := by omega
    have hfr := seen_new hnd hjl
    have hnx := seen_next hjl
    obtain ⟨x, hx⟩ : ∃ x, at_ s.c.done (j : Int) = x := ⟨_, rfl⟩
    have hxd : x ∈ s.c.done := hx ▸ at_mem hjl
    rw [hx] at hfr hnx
    simp (disch := omega) [-hset_if, -Bool.decide_and, hset_ne, how.sl.ix elemS67, how.sl.load0 shp33, how.sl.load shp33, hx]
    have hb6 : hset n5 (.cells [.int .i64 x.boot, .int .i64 x.inv, .int .i64 x.code, .string x.data] 33 1) H5 n5 = .cells [.int .i64 x.boot, .int .i64 x.inv, .int .i64 x.code, .string x.data] 33 1 := hset_same _ _ _
    have f6 : ∀ i, i < n5 → hset n5 (.cells [.int .i64 x.boot, .int .i64 x.inv, .int .i64 x.code, .string x.data] 33 1) H5 i = H5 i := fun i hi => hset_ne (by omega) _ _
    generalize hset n5 (.cells [.int .i64 x.boot, .int .i64 x.inv, .int .i64 x.code, .string x.data] 33 1) H5 = H6 at *
    have kt6 := kt.al (n' := n5 + 1) (H' := H6) (by omega) f6
    have hn3 : n3 < n5 := by obtain ⟨⟨_, _, _, h, _⟩, _, _⟩ := kt; exact h
    obtain ⟨e6, how6, hmp6⟩ := kt6
    refine (MapG.look (C := ⟨Try.prog, w0⟩) (f := intK) (x := x.inv) (ok := false) hmp6 keyI mapT76 zeroV4 keysI).mpr ?_
    rw [List.find?_eq_none.2 (fun q hq => by have := hfr q hq; simp only [decide_eq_true_eq]; exact fun e => this e.symm)]
    simp only [lkG, Bool.false_eq_true, if_false]
    simp (disch := omega) [-hset_if, -Bool.decide_and, hset_ne, hb6]
    refine MapG.add (f := intK) (x := x.inv) hmp6 keyI hfr mapT76 keysI ?_
    intro o ho
    rw [← hnx] at ho
    have hb7 : hset n3 o H6 n5 = .cells [.int .i64 x.boot, .int .i64 x.inv, .int .i64 x.code, .string x.data] 33 1 := by rw [hset_ne (by omega)]; exact hb6
    have kt7 : TI2 (hset n3 o H6) w0 n (n5 + 1) N s n3 x4 G4 (j + 1) := by
      obtain ⟨col, g, c1, c2, c3⟩ := e6
      have g7 := g.al (n' := n5 + 1) (H' := hset n3 o H6) (Nat.le_refl _) (fun i hi hc => hset_ne (by rintro rfl; omega) _ _)
      refine ⟨⟨_, g7, ?_, c2, fun i hi => ⟨(c3 i hi).1, ?_⟩⟩, how6.frame (Nat.le_refl _) (fun i hi => hset_ne (c3 i hi).1 _ _), ho⟩
      · unfold ext; rw [if_pos c2]; exact c1
      · unfold ext; rw [if_pos (how6.lt i hi)]; exact (c3 i hi).2
    have f7 : ∀ i, i < n → hset n3 o H6 i = H i := fun i hi => by rw [hset_ne (by omega), f6 i (by omega), k2 i hi]
    generalize hset n3 o H6 = H7 at *
    by_cases c3 : x.code = 17
    · simp (disch := omega) [-hset_if, -Bool.decide_and, hset_ne, hb7, c3]
      exact Next.mk (j + 1) (by first | omega | (dsimp only; omega)) (by simp (disch := omega) [-hset_if, -Bool.decide_and, hset_ne]) ⟨by omega, f7, kt7⟩
    have c3b : (x.code == 17) = false := by simpa using c3
    by_cases c3' : x.code = 15
    · have c3c : (x.code == 15) = true := by simpa using c3'
      simp (disch := omega) [-hset_if, -Bool.decide_and, hset_ne, hb7, c3b, c3c]
      exact Next.mk (j + 1) (by first | omega | (dsimp only; omega)) (by simp (disch := omega) [-hset_if, -Bool.decide_and, hset_ne]) ⟨by omega, f7, kt7⟩
    have hcode : x.code ≠ 17 ∧ x.code ≠ 15 := ⟨c3, c3'⟩
    have hxg : x ∈ s.given := by rcases g6.dn x hxd with e | e | e; exact absurd e hcode.1; exact absurd e hcode.2; exact e
    have hgi := g6.gi x hxg
    obtain ⟨col7, g7, c71, c72, c73⟩ := kt7.ex
    have hself7 := g7.self
    have gv7 := g7.gv
    have c3c : (x.code == 15) = false := by simpa using c3'
    simp (disch := omega) [-hset_if, -Bool.decide_and, hset_ne, hb7, c3b, c3c]
    refine AW.while (σ := Nat) (fun i => s.given.length - i) (fun i => [(7, .pointer (some ⟨new N, 0, none⟩)), (9, .map (some (new n3))), (10, x4), (11, .int .i64 (j : Int)), (12, .pointer (some ⟨new n5, 0, none⟩)), (13, .bool ((s.given.take i).any fun y => sameA y x)), (14, .int .i64 (i : Int))])
      (fun i n8 H8 => n8 = n5 + 1 ∧ H8 = H7 ∧ i ≤ s.given.length) 0 ?_ ?_ ?_
    · simp (disch := omega) [-hset_if, -Bool.decide_and, hset_ne]
    · exact ⟨rfl, rfl, by omega⟩
    rintro i n8 H8 ⟨rfl, rfl, l1⟩
    simp (disch := omega) [-hset_if, -Bool.decide_and, hset_ne, hself7, gv7.sl.lenK]
    refine cif_dec (fun c4 => ?_) (fun c4 => ?_)
    · refine AW.draw (X := ⟨_, 165, _, _⟩) (id := 27) mixed (.take 0 <| .take 1 <| .take 2 <| .take 3 <| .take 4 <| .take 5 <| .take 6 <| .take 7 <| .take 8 <| .take 9 <| .take 10 <| .take 11 <| .take 12 <| .done) (by kernel_rfl) ?_
      have hsn := same_next (a := x) (l := s.given) (j := i) (by omega)
      simp (disch := omega) [-hset_if, -Bool.decide_and, hset_ne, hself7, gv7.sl.ix elemS67, gv7.sl.load0 shp33, gv7.sl.load shp33, hb7]
      refine gif_var (fun c5 => ?_) (fun c5 => ?_)
      · rw [c5, Bool.true_or] at hsn
        simp (disch := omega) [-hset_if, -Bool.decide_and, hset_ne]
        exact Next.mk (i + 1) (by first | omega | (dsimp only; omega)) (by simp (disch := omega) [-hset_if, -Bool.decide_and, hset_ne, hsn]) ⟨rfl, rfl, by omega⟩
      · rw [c5, Bool.false_or] at hsn
        simp (disch := omega) [-hset_if, -Bool.decide_and, hset_ne, hself7, gv7.sl.ix elemS67, gv7.sl.load0 shp33, gv7.sl.load shp33, hb7]
        exact Next.mk (i + 1) (by first | omega | (dsimp only; omega)) (by (simp (disch := omega) [-hset_if, -Bool.decide_and, hset_ne, hsn]); rfl) ⟨rfl, rfl, by omega⟩
    have hi : i = s.given.length := by omega
    subst hi
    simp (disch := omega) [-hset_if, -Bool.decide_and, hset_ne]
    refine AW.draw (X := ⟨_, 165, _, _⟩) (id := 28) mixed (.take 0 <| .take 1 <| .take 2 <| .take 3 <| .take 4 <| .take 5 <| .take 6 <| .take 7 <| .take 8 <| .take 9 <| .take 10 <| .take 11 <| .take 12 <| .take 13 <| .take 14 <| .take 16 <| .take 17 <| .take 18 <| .take 19 <| .take 20 <| .take 21 <| .each 15 [7, 8, 16, 17, 18, 19, 20, 21] (.each 22 [7, 8] (.take 23 <| .take 24 <| .take 25 <| .take 26 <| .done) <| .stop) <| .each 22 [7, 8, 9, 10, 11, 12, 13, 14] (.each 15 [7, 8] (.take 23 <| .take 24 <| .take 25 <| .take 26 <| .done) <| .stop) <| .stop) (by kernel_rfl) ?_
    have hany : (s.given.any fun y => sameA y x) = true := by have := same_all hxg; rwa [List.take_length] at this
    by_cases c6 : x.code = 0
    · have hgd := hgi.2 c6
      have hl : ∀ k : Value → Prop, k (.string (dOf s.data x.inv)) → lookK ⟨Try.prog, w0⟩ H8 77 (.map (some (new s.X))) (.int .i64 x.inv) false k := fun k hk => (MapG.look (C := ⟨Try.prog, w0⟩) (f := intK) (x := x.inv) (ok := false) g7.mp keyI mapT77 zeroV9 keysI).mpr (by rw [lk_dt]; exact hk)
      have hds : (dOf s.data x.inv).size ≤ 400 := dOf_size g7' x.inv
      simp (disch := omega) [-hset_if, -Bool.decide_and, hset_ne, hself7, hb7, hany, c6]
      refine ⟨hl _ ?_, hl _ ?_⟩
      · simp (disch := omega) [-hset_if, -Bool.decide_and, hset_ne, hself7, hb7]
        refine hl _ ?_
        simp (disch := omega) [-hset_if, -Bool.decide_and, hset_ne, hself7, hb7, hgd, hds]
        refine ⟨by omega, ?_⟩
        refine cif_dec (fun c8 => ?_) (fun c8 => ?_)
        · simp (disch := omega) [-hset_if, -Bool.decide_and, hset_ne]
          exact Next.mk (j + 1) (by first | omega | (dsimp only; omega)) (by simp (disch := omega) [-hset_if, -Bool.decide_and, hset_ne]) ⟨by omega, f7, kt7⟩
        · exact absurd rfl c8
      · simp (disch := omega) [-hset_if, -Bool.decide_and, hset_ne, hself7, hb7]
        refine hl _ ?_
        simp (disch := omega) [-hset_if, -Bool.decide_and, hset_ne, hself7, hb7, hgd, hds]
        refine ⟨by omega, ?_⟩
        refine cif_dec (fun c8 => ?_) (fun c8 => ?_)
        · simp (disch := omega) [-hset_if, -Bool.decide_and, hset_ne]
          exact Next.mk (j + 1) (by first | omega | (dsimp only; omega)) (by simp (disch := omega) [-hset_if, -Bool.decide_and, hset_ne]) ⟨by omega, f7, kt7⟩
        · exact absurd rfl c8
    · have c6b : (x.code == 0) = false := by simpa using c6
      simp (disch := omega) [-hset_if, -Bool.decide_and, hset_ne, hself7, hb7, hany, c6b]
      exact ⟨Next.mk (j + 1) (by first | omega | (dsimp only; omega)) (by simp (disch := omega) [-hset_if, -Bool.decide_and, hset_ne]) ⟨by omega, f7, kt7⟩, Next.mk (j + 1) (by first | omega | (dsimp only; omega)) (by simp (disch := omega) [-hset_if, -Bool.decide_and, hset_ne]) ⟨by omega, f7, kt7⟩⟩
  have hjd : j = s.c.done.length := by omega
  subst hjd
  obtain ⟨⟨col5, g5x, cn, hn3, cG⟩, how5, hmp5⟩ := kt
  have hself5 := g5x.self
  simp (disch := omega) [-hset_if, -Bool.decide_and, hset_ne, hself5]
  refine Pending_ok g5x.cli (by omega) ?_
  intro n6 H6 x6 G6 b1' b2' b3' b4'
  have g6x := g5x.al b1' (fun i hi _ => b2' i hi)
  have hself6 := g6x.self
  have hmp6 := hmp5.frame (b2' n3 hn3)
  have f6 : ∀ i, i < n → H6 i = H i := fun i hi => by rw [b2' i (by omega), k2 i hi]
  simp (disch := omega) [-hset_if, -Bool.decide_and, hset_ne]
  refine AW.while (σ := Nat) (fun j => s.c.opn.length - j) (fun j => [(7, .pointer (some ⟨new N, 0, none⟩)), (9, .map (some (new n3))), (15, x6), (16, .int .i64 (j : Int))])
    (fun j n7 H7 => n7 = n6 ∧ H7 = H6 ∧ j ≤ s.c.opn.length) 0 ?_ ?_ ?_
  · simp (disch := omega) [-hset_if, -Bool.decide_and, hset_ne]
  · exact ⟨rfl, rfl, by omega⟩
  rintro j n7 H7 ⟨rfl, rfl, l1⟩
  have hil : (invs s.c.opn).length = s.c.opn.length := by unfold invs; rw [List.length_map]
  simp (disch := omega) [-hset_if, -Bool.decide_and, hset_ne, b3'.sl.lenK, hil]
  refine cif_dec (fun c7 => ?_) (fun c7 => ?_)
  · simp (disch := omega) [-hset_if, -Bool.decide_and, hset_ne, b3'.sl.ix elemS64, b3'.sl.load0 shp3, hil]
    refine (MapG.look (C := ⟨Try.prog, w0⟩) (f := intK) (x := at_ (invs s.c.opn) (j : Int)) (ok := false) hmp6 keyI mapT76 zeroV4 keysI).mpr ?_
    rw [List.find?_eq_none.2 (fun q hq => by have := seen_pend g6.nd (at_mem (l := invs s.c.opn) (j := j) (by omega)) q hq; simp only [decide_eq_true_eq]; exact fun e => this e.symm)]
    simp only [lkG, Bool.false_eq_true, if_false]
    simp (disch := omega) [-hset_if, -Bool.decide_and, hset_ne]
    exact Next.mk (j + 1) (by first | omega | (dsimp only; omega)) (by simp (disch := omega) [-hset_if, -Bool.decide_and, hset_ne]) ⟨rfl, rfl, by omega⟩
  have hm6 := g6x.mp.len
  have hs6 := hmp6.len
  refine AW.draw (X := ⟨_, 165, _, _⟩) (id := 36) mixed (.take 0 <| .take 2 <| .take 3 <| .take 5 <| .take 6 <| .take 7 <| .take 8 <| .each 1 [0, 2, 3, 5, 6, 7, 8] (.take 4 <| .each 9 [0, 2, 3, 5, 6, 7, 8, 4] (.take 10 <| .take 11 <| .done) <| .stop) <| .stop) (by kernel_rfl) ?_
  rw [List.length_map] at hm6
  unfold seenV at hs6
  rw [List.length_map, List.take_length] at hs6
  have hcnt : s.c.done.length + s.c.opn.length = s.data.length := by unfold Cnt at g5; simp only [NS.p] at g5; omega
  simp (disch := omega) [-hset_if, -Bool.decide_and, hset_ne, hself6, hm6, hs6, b3'.sl.lenK, hil]
  exact hr.fin (by have : (s.c.done.length : Int) + (s.c.opn.length : Int) = (s.data.length : Int) := (by omega); rw [this]; simp) (by omega) f6
end Go.Aw.S50
