/-
  Chapter 50: the law that no request is executed twice.
-/
import Derived.Test.YtfeclhjbkphjdaaS50h
namespace Go.Aw.S50
open Go.RowKit Go.Proofs Go.Aw.Tab
set_option linter.unusedSimpArgs false
set_option linter.unusedVariables false
set_option maxRecDepth 10000
set_option maxHeartbeats 2000000
set_option pp.deepTerms false
set_option pp.deepTerms.threshold 4
set_option pp.maxSteps 1500
attribute [local simp] Ans.cells Ask.cells Opn.cells
variable {w0 : World} {n : Nat} {H : Heap} {K : Value → Nat → Heap → Prop} {pv : Value} {D : Nat → Prop} {l : List Opn}
theorem chk50 (b : Bool) (w : World) (x y : Int) : (Instr.checkKey b 10000 50 (.agg #[.int .i64 x, .int .i64 y])).run Try.prog w = .ok () w := by
  rw [show (10000 : Nat) = 9998 + 1 + 1 from rfl]
  unfold Instr.checkKey
  simp [go_sem]
  unfold Instr.checkKey
  simp [go_sem]
/-- A key of two numbers. -/
def prK (p : Int × Int) : Value := .agg #[.int .i64 p.1, .int .i64 p.2]
theorem prI (a b : Int × Int) : keyIs (prK a) (prK b) = decide (a = b) := by
  obtain ⟨a1, a2⟩ := a
  obtain ⟨b1, b2⟩ := b
  unfold prK
  rw [Bool.eq_iff_iff]
  simp
theorem prOk {x : Int × Int} (es : List MapEntry) (h : ∀ e ∈ es, ∃ b, e.key = prK b) : KeysOk Try.prog 50 (prK x) es := by
  refine .cells #[.int .i64 x.1, .int .i64 x.2] rfl rfl (fun b w => chk50 b w _ _) ⟨_, rfl, fun a b => rfl⟩ (fun e he => ?_)
  obtain ⟨b, hb⟩ := h e he
  refine ⟨#[.int .i64 b.1, .int .i64 b.2], hb, ?_⟩
  rw [hb, prI]
  have := eqr50 (x0 := x.1) (x1 := x.2) (y0 := b.1) (y1 := b.2)
  rw [show decide (x = b) = decide (x.1 = b.1 ∧ x.2 = b.2) by obtain ⟨a, c⟩ := x; obtain ⟨d, e⟩ := b; simp]
  exact this
/-- A request that was answered. -/
def known (m : Int → List (Int × Ans) × Int) (p : Int × Int) : Prop := (∃ q ∈ (m p.1).1, q.1 = p.2) ∨ p.2 ≤ (m p.1).2
theorem known.congr {m m' : Int → List (Int × Ans) × Int} {p : Int × Int} (h : known m p) (e : ∀ c, m' c = m c) : known m' p := by
  obtain rfl : m' = m := funext e
  exact h
theorem handle_do {sv : Srv} {m : Int → List (Int × Ans) × Int} {c : Int} {a : Ask} (h : (handleP sv (m c) c a).1.2.1 = true) :
    (handleP sv (m c) c a).1.2.2 = 0 ∧ a.boot = sv.boot ∧ ¬ known m (c, a.inv) ∧ (handleP sv (m c) c a).2 = { sv with nowC := c, nowI := a.inv } ∧ ¬ (c = 0 ∧ a.inv = 0) := by
  unfold handleP at h ⊢
  split at h
  · cases h
  rename_i b1
  split at h
  · cases h
  rename_i b2
  split at h
  · cases h
  rename_i b3
  split at h
  · cases h
  rename_i b4
  split at h
  · cases h
  rename_i b5
  rw [if_neg b1, if_neg b2, if_neg b4, if_neg b5]
  refine ⟨rfl, by simpa using b2, ?_, rfl, by omega⟩
  rintro (⟨q, hq, e⟩ | e)
  · have := List.find?_eq_none.1 b3 q hq
    dsimp only at e
    simp [e] at this
  · exact b4 e
theorem handle_not {sv : Srv} {m : Int → List (Int × Ans) × Int} {c : Int} {a : Ask} (h : (handleP sv (m c) c a).1.2.1 = false) : (handleP sv (m c) c a).2 = sv := by
  unfold handleP at h ⊢
  split at h
  · rename_i b1; rw [if_pos b1]
  rename_i b1
  rw [if_neg b1]
  split at h
  · rename_i b2; rw [if_pos b2]
  rename_i b2
  rw [if_neg b2]
  split at h
  · rfl
  split at h
  · rename_i b4; rw [if_pos b4]
  rename_i b4
  rw [if_neg b4]
  split at h
  · rename_i b5; rw [if_pos b5]
  · cases h
theorem memP_known {limit i : Int} {a : Ans} {m : List (Int × Ans) × Int} {x : Int} (h : ((∃ q ∈ m.1, q.1 = x) ∨ x ≤ m.2) ∨ x = i) : (∃ q ∈ (memP limit i a m).1, q.1 = x) ∨ x ≤ (memP limit i a m).2 := by
  have h1 : (∃ q ∈ m.1 ++ [(i, a)], q.1 = x) ∨ x ≤ m.2 := by
    rcases h with (⟨q, hq, e⟩ | e) | e
    · exact .inl ⟨q, by simp [hq], e⟩
    · exact .inr e
    · exact .inl ⟨(i, a), by simp, e.symm⟩
  unfold memP
  split
  · dsimp only
    rcases h1 with ⟨q, hq, e⟩ | e
    · by_cases hl : leastK i (m.1 ++ [(i, a)]) = q.1
      · exact .inr (by omega)
      · exact .inl ⟨q, (List.mem_eraseP_of_neg (by simpa using hl)).2 hq, e⟩
    · exact .inr (by omega)
  · exact h1
theorem memP_len {limit i : Int} {a : Ans} {m : List (Int × Ans) × Int} : (memP limit i a m).1.length ≤ m.1.length + 1 := by
  unfold memP
  split
  · dsimp only
    have := (List.eraseP_sublist (l := m.1 ++ [(i, a)]) (p := fun p => decide (leastK i (m.1 ++ [(i, a)]) = p.1))).length_le
    simpa using this
  · simp
structure OI (H : Heap) (n n1 S M X N : Nat) (b : Int) (j : Nat) (sv : Srv) (ms : List Ent) (kv : List ((Int × Int) × Value)) (now : Int × Int) : Prop where
  svr : SvR H n1 S M sv ms
  boot : sv.boot = b
  done : sv.done = kv.length
  map : MapG prK H X kv
  tr : ∀ p ∈ kv, p.2 = .bool true
  kn : ∀ p ∈ kv, known (memOf ms) p.1
  box : H N = .cells [.int .i64 now.1, .int .i64 now.2] 50 1
  busy : ¬ (sv.nowC = 0 ∧ sv.nowI = 0) → now = (sv.nowC, sv.nowI) ∧ ¬ known (memOf ms) now
  so : ∀ i, SvO S M ms i → n ≤ i ∧ i ≠ X ∧ i ≠ N
  x : n ≤ X ∧ X < n1
  nb : n ≤ N ∧ N < n1 ∧ N ≠ X
  len : kv.length ≤ j ∧ ∀ c, (memOf ms c).1.length ≤ j
  le : n ≤ n1
structure OIx (H : Heap) (n n1 S M X N : Nat) (b : Int) (j k : Nat) : Prop where
  ex : ∃ sv ms kv now, OI H n n1 S M X N b j sv ms kv now ∧ kv.length = k
theorem OI.fr {n1 S M X N j : Nat} {b : Int} {sv : Srv} {ms : List Ent} {kv : List ((Int × Int) × Value)} {now : Int × Int} (g : OI H n n1 S M X N b j sv ms kv now) {n' : Nat} {H' : Heap} (h1 : n1 ≤ n') (h2 : ∀ i, i < n1 → H' i = H i) : OI H' n n' S M X N b j sv ms kv now :=
  ⟨g.svr.frame h1 h2, g.boot, g.done, g.map.frame (h2 _ g.x.2), g.tr, g.kn, by rw [h2 _ g.nb.2.1]; exact g.box, g.busy, g.so, by have := g.x; omega, by have := g.nb; omega, g.len, by have := g.le; omega⟩
theorem OI.alloc {n1 S M X N j : Nat} {b : Int} {sv : Srv} {ms : List Ent} {kv : List ((Int × Int) × Value)} {now : Int × Int} (g : OI H n n1 S M X N b j sv ms kv now) {o : AObj} : OI (hset n1 o H) n (n1 + 1) S M X N b j sv ms kv now :=
  g.fr (by omega) (fun i hi => hset_ne (by omega) _ _)
/-- A step of the server. -/
theorem OI.step {n1 S M X N j : Nat} {b : Int} {sv sv' : Srv} {ms ms' : List Ent} {kv kv' : List ((Int × Int) × Value)} {now now' : Int × Int} (g : OI H n n1 S M X N b j sv ms kv now) {n' : Nat} {H' : Heap} (h1 : n1 ≤ n')
    (h3 : ∀ i, SvO S M ms' i → SvO S M ms i ∨ n1 ≤ i) (h4 : SvR H' n' S M sv' ms') (h5 : sv'.boot = sv.boot) (h6 : sv'.done = kv'.length) (h7 : MapG prK H' X kv') (h8 : ∀ p ∈ kv', p.2 = .bool true) (h9 : ∀ p ∈ kv', known (memOf ms') p.1)
    (h10 : H' N = .cells [.int .i64 now'.1, .int .i64 now'.2] 50 1) (h11 : ¬ (sv'.nowC = 0 ∧ sv'.nowI = 0) → now' = (sv'.nowC, sv'.nowI) ∧ ¬ known (memOf ms') now') (h12 : kv'.length ≤ j + 1 ∧ ∀ c, (memOf ms' c).1.length ≤ j + 1) : OI H' n n' S M X N b (j + 1) sv' ms' kv' now' := by
  have hle := g.le
  have hx := g.x
  have hn := g.nb
  refine ⟨h4, by rw [h5]; exact g.boot, h6, h7, h8, h9, h10, h11, fun i hi => ?_, by omega, by omega, h12, by omega⟩
  rcases h3 i hi with z | z
  · exact g.so i z
  · omega
theorem OI.fin {n1 S M X N j : Nat} {b : Int} {sv : Srv} {ms ms4 : List Ent} {kv : List ((Int × Int) × Value)} {now : Int × Int} {code : Int} {data : ByteArray} {x : (Ans × Int) × Srv × (Int → List (Int × Ans) × Int)} (g : OI H n n1 S M X N b j sv ms kv now) (hx : finP sv code data (memOf ms) = x) {n4 : Nat} {H4 : Heap}
    (d1 : n1 ≤ n4) (d2 : ∀ i, i < n1 → ¬ SvO S M ms i → H4 i = H i) (d3 : ∀ c, memOf ms4 c = x.2.2 c) (d4 : ∀ i, SvO S M ms4 i → SvO S M ms i ∨ n1 ≤ i) (d5 : SvR H4 n4 S M x.2.1 ms4) :
    (x.1.2 ≠ 0 → OI H4 n n4 S M X N b (j + 1) x.2.1 ms4 kv now) ∧ (x.1.2 = 0 → (∀ p ∈ kv, p.1 ≠ now) ∧ ∀ o, MapG prK (hset X o H4) X (kv ++ [(now, .bool true)]) → OI (hset X o H4) n n4 S M X N b (j + 1) x.2.1 ms4 (kv ++ [(now, .bool true)]) now) := by
  have hX : ¬ SvO S M ms X := fun e => (g.so X e).2.1 rfl
  have hN : ¬ SvO S M ms N := fun e => (g.so N e).2.2 rfl
  have hm : MapG prK H4 X kv := g.map.frame (d2 X g.x.2 hX)
  have hbx : H4 N = .cells [.int .i64 now.1, .int .i64 now.2] 50 1 := by rw [d2 N g.nb.2.1 hN]; exact g.box
  obtain ⟨l1, l2⟩ := g.len
  have keep : x.2 = (sv, memOf ms) → OI H4 n n4 S M X N b (j + 1) x.2.1 ms4 kv now := fun e => by
    rw [e] at d3 d5 ⊢
    exact g.step d1 d4 d5 rfl g.done hm g.tr (fun p hp => (g.kn p hp).congr d3) hbx (fun hb => ⟨(g.busy hb).1, fun k => (g.busy hb).2 (k.congr fun c => (d3 c).symm)⟩) ⟨by omega, fun c => by rw [d3]; have := l2 c; dsimp only; omega⟩
  unfold finP at hx
  split at hx
  · subst hx
    exact ⟨fun _ => keep rfl, fun e => by simp at e⟩
  rename_i hb
  split at hx
  · subst hx
    exact ⟨fun _ => keep rfl, fun e => by simp at e⟩
  subst hx
  obtain ⟨e1, e2⟩ := g.busy hb
  refine ⟨fun e => by simp at e, fun _ => ⟨fun p hp e => e2 (e ▸ g.kn p hp), fun o ho => ?_⟩⟩
  have hlt4 : X < n4 := by have := g.x; omega
  dsimp only at d3 d5
  have hd3 : ∀ c, memOf ms4 c = if c = sv.nowC then memP sv.limit sv.nowI (finA sv code data) (memOf ms c) else memOf ms c := d3
  have hk : ∀ p, known (memOf ms) p ∨ p = now → known (memOf ms4) p := fun p hp => by
    unfold known
    rw [hd3]
    by_cases hc : p.1 = sv.nowC
    · rw [if_pos hc]
      refine memP_known ?_
      rcases hp with hp | hp
      · exact .inl hp
      · right; rw [hp, e1]
    · rw [if_neg hc]
      rcases hp with hp | hp
      · exact hp
      · rw [hp, e1] at hc; exact absurd rfl hc
  refine g.step d1 d4 (d5.frameD (Nat.le_refl _) (fun i hi => hset_ne (fun e => ?_) _ _)) rfl ?_ ho (fun p hp => ?_) (fun p hp => ?_) (by rw [hset_ne (by have := g.nb; omega)]; exact hbx) (fun hb => by simp at hb) ⟨by simp; omega, fun c => ?_⟩
  · subst e
    rcases d4 _ hi with z | z
    · exact hX z
    · have := g.x; omega
  · have := g.done
    simp only [List.length_append, List.length_cons, List.length_nil]
    omega
  · rcases List.mem_append.1 hp with hp | hp
    · exact g.tr p hp
    · simp only [List.mem_cons, List.not_mem_nil, or_false] at hp
      rw [hp]
  · rcases List.mem_append.1 hp with hp | hp
    · exact hk _ (.inl (g.kn p hp))
    · simp only [List.mem_cons, List.not_mem_nil, or_false] at hp
      exact hk _ (.inr (by rw [hp]))
  · rw [hd3]
    have := l2 c
    split
    · have := memP_len (limit := sv.limit) (i := sv.nowI) (a := finA sv code data) (m := memOf ms c)
      omega
    · omega
theorem OI.hnd {n1 S M X N j : Nat} {b : Int} {sv : Srv} {ms ms4 : List Ent} {kv : List ((Int × Int) × Value)} {now : Int × Int} {c : Int} {a : Ask} {x : (Ans × Bool × Int) × Srv} (g : OI H n n1 S M X N b j sv ms kv now) (hx : handleP sv (memOf ms c) c a = x) {n4 : Nat} {H4 : Heap}
    (d1 : n1 ≤ n4) (d2 : ∀ i, i < n1 → ¬ SvO S M ms i → H4 i = H i) (d3 : ∀ c, memOf ms4 c = memOf ms c) (d4 : ∀ i, SvO S M ms4 i → SvO S M ms i ∨ n1 ≤ i) (d5 : SvR H4 n4 S M x.2 ms4) :
    (x.1.2.1 = false → OI H4 n n4 S M X N b (j + 1) x.2 ms4 kv now) ∧ (x.1.2.1 = true → x.1.2.2 = 0 ∧ a.boot = b ∧ (∀ p ∈ kv, p.1 ≠ (c, a.inv)) ∧ OI (hset N (.cells [.int .i64 c, .int .i64 a.inv] 50 1) H4) n n4 S M X N b (j + 1) x.2 ms4 kv (c, a.inv)) := by
  have hX : ¬ SvO S M ms X := fun e => (g.so X e).2.1 rfl
  have hN : ¬ SvO S M ms N := fun e => (g.so N e).2.2 rfl
  have hm : MapG prK H4 X kv := g.map.frame (d2 X g.x.2 hX)
  have hbx : H4 N = .cells [.int .i64 now.1, .int .i64 now.2] 50 1 := by rw [d2 N g.nb.2.1 hN]; exact g.box
  obtain ⟨l1, l2⟩ := g.len
  refine ⟨fun h => ?_, fun h => ?_⟩
  · have e : x.2 = sv := by rw [← hx] at h ⊢; exact handle_not h
    rw [e] at d5 ⊢
    exact g.step d1 d4 d5 rfl g.done hm g.tr (fun p hp => (g.kn p hp).congr d3) hbx (fun hb => ⟨(g.busy hb).1, fun k => (g.busy hb).2 (k.congr fun c => (d3 c).symm)⟩) ⟨by omega, fun c => by rw [d3]; have := l2 c; omega⟩
  · rw [← hx] at h
    obtain ⟨e1, e2, e3, e4, e5⟩ := handle_do h
    rw [hx] at e1 e4
    refine ⟨e1, by rw [e2]; exact g.boot, fun p hp e => e3 (e ▸ g.kn p hp), ?_⟩
    rw [e4] at d5 ⊢
    have hnb := g.nb
    refine g.step d1 d4 (d5.frameD (Nat.le_refl _) (fun i hi => hset_ne (fun e => ?_) _ _)) rfl g.done (hm.frame (by rw [hset_ne (by omega)])) g.tr (fun p hp => (g.kn p hp).congr d3) (hset_same _ _ _) (fun _ => ⟨rfl, fun k => e3 (k.congr fun c => (d3 c).symm)⟩) ⟨by omega, fun c => by rw [d3]; have := l2 c; omega⟩
    subst e
    rcases d4 _ hi with z | z
    · exact hN z
    · omega
theorem Once_ok {b m : Int} (haw : ∀ K, K (.bool true) n H → ACall ⟨Try.prog, w0⟩ 9 [] K n H) (hs : SlR ⟨Try.prog, w0⟩ H D 11 Opn.cells pv l) (hD : ∀ i, D i → i < n) (hr : Res n H K (.bool true)) : ACall ⟨Try.prog, w0⟩ 4 [.int .i64 b, .int .i64 m, pv] K n H := by
  refine ACall.run Try.func4 rfl Try.ntmps4 Try.results4 (by simp) fun J0 => ?_
  simp (disch := omega) [-hset_if, -Bool.decide_and, hset_ne]
  refine haw _ ?_
  simp (disch := omega) [-hset_if, -Bool.decide_and, hset_ne]
  refine small_ok hs ?_
  simp (disch := omega) [-hset_if, -Bool.decide_and, hset_ne]
  refine cif_var (fun h0 => ?_) (fun h0 => ?_)
  rotate_left
  · simp (disch := omega) [-hset_if, -Bool.decide_and, hset_ne]
    exact hr.fin rfl (by omega) (fun i hi => by simp (disch := omega) only [hset_ne])
  have hl80 : l.length ≤ 80 := by unfold smallB at h0; simp at h0; omega
  simp (disch := omega) [-hset_if, -Bool.decide_and, hset_ne]
  refine NewServer_ok (fun hns n1 H1 a1 a2 => ?_) (fun hns n1 H1 S M a1 a2 a3 a4 hsv => ?_)
  · simp (disch := omega) [-hset_if, -Bool.decide_and, hset_ne]
    exact hr.fin rfl (by omega) (fun i hi => by rw [a2 i (by omega)])
  simp (disch := omega) [-hset_if, -Bool.decide_and, hset_ne]
  have hlt0 := fun i hi => hsv.lt' (i := i) hi
  refine AW.while (σ := Nat × Nat) (fun s => l.length - s.1) (fun s => [(0, .int .i64 b), (2, pv), (7, .pointer (some ⟨new S, 0, none⟩)), (9, .map (some (new n1))), (10, .pointer (some ⟨new (n1 + 1), 0, none⟩)), (11, .int .i64 (s.2 : Int)), (12, .int .i64 (s.1 : Int))])
    (fun s n3 H3 => s.1 ≤ l.length ∧ (∀ i, i < n → H3 i = H i) ∧ OIx H3 n n3 S M n1 (n1 + 1) b s.1 s.2) (0, 0) ?_ ?_ ?_
  · simp (disch := omega) [-hset_if, -Bool.decide_and, hset_ne]
  · refine ⟨by omega, fun i hi => by simp (disch := omega) only [hset_ne]; exact a2 i hi, ⟨_, [], [], (0, 0), ⟨hsv.frame (by omega) (fun i hi => by simp (disch := omega) only [hset_ne]), rfl, rfl, MapG.new0 (c := 0) (by simp (disch := omega) [-hset_if, -Bool.decide_and, hset_ne]), by simp, by simp, by simp (disch := omega) [-hset_if, -Bool.decide_and, hset_ne], by simp, fun i hi => ?_, by omega, by omega, by simp [memOf], by omega⟩, rfl⟩⟩
    have := hlt0 i hi
    rcases hi with rfl | rfl | ⟨e, he, _⟩
    · omega
    · omega
    · simp at he
  rintro ⟨j, k⟩ n3 H3 ⟨g1, g2, ⟨sv, ms, kv, now, g3, hkv⟩⟩
  dsimp only at g1 g3 hkv ⊢
  have hs3 : SlR ⟨Try.prog, w0⟩ H3 D 11 Opn.cells pv l := hs.frame (fun i hi => g2 i (hD i hi))
  have hle := g3.le
  obtain ⟨hlk, hlm⟩ := g3.len
  simp (disch := omega) [-hset_if, -Bool.decide_and, hset_ne, hs3.lenK]
  refine cif_dec (fun c1 => ?_) (fun c1 => ?_)
  rotate_left
  · simp (disch := omega) [-hset_if, -Bool.decide_and, hset_ne]
    refine Executed_ok g3.svr ?_
    have hln : lenHK H3 .map (.map (some (new n1))) = some (k : Int) := by rw [g3.map.len, hkv]
    have hdn := g3.done
    simp (disch := omega) [-hset_if, -Bool.decide_and, hset_ne, hln, hdn, hkv]
    exact hr.fin rfl (by omega) g2
  simp (disch := omega) [-hset_if, -Bool.decide_and, hset_ne, hs3.ix elemS22, hs3.load0 shp3, hs3.load shp3]
  refine cif_bne (fun c2 => ?_) (fun c2 => ?_)
  · simp (disch := omega) [-hset_if, -Bool.decide_and, hset_ne]
    refine AW.draw (X := ⟨_, 133, _, _⟩) (id := 19) mixed (.take 0 <| .take 1 <| .take 2 <| .take 3 <| .take 4 <| .take 5 <| .take 6 <| .take 7 <| .take 8 <| .take 9 <| .take 10 <| .take 11 <| .each 12 [0, 1, 2, 3, 4, 5, 6, 7, 8, 9, 10, 11] (.each 13 [] (.done) <| .stop) <| .stop) (by kernel_rfl) ?_
    simp (disch := omega) [-hset_if, -Bool.decide_and, hset_ne, hs3.ix elemS22, hs3.load0 shp3, hs3.load shp3, hs3.load shp35, hs3.fresh hD, hs3.fresh0 hD, Addr.add_add]
    generalize hx : handleP sv (memOf ms (at_ l (j : Int)).client) (at_ l (j : Int)).client (at_ l (j : Int)).ask = x
    have g3' := g3.alloc (o := .cells [.int .i64 (at_ l (j : Int)).client, .int .i64 (at_ l (j : Int)).ask.inv] 50 1)
    generalize hH4 : hset n3 _ H3 = H4 at *
    have hk4 : H4 n3 = .cells [.int .i64 (at_ l (j : Int)).client, .int .i64 (at_ l (j : Int)).ask.inv] 50 1 := by rw [← hH4, hset_same]
    have hfr4 : ∀ i, i < n3 → H4 i = H3 i := fun i hi => by rw [← hH4, hset_ne (by omega)]
    have hs4 : SlR ⟨Try.prog, w0⟩ H4 D 11 Opn.cells pv l := hs3.frame (fun i hi => hfr4 i (by have := hD i hi; omega))
    clear hH4
    have hso : ∀ i, SvO S M ms i → i < n3 + 1 := fun i hi => g3'.svr.lt' hi
    have hso3 : ∀ i, SvO S M ms i → i < n3 := fun i hi => g3.svr.lt' hi
    have hSS := hso S (.inl rfl)
    have hMM := hso M (.inr (.inl rfl))
    have hbox := g3'.box
    have hnb := g3'.nb
    have hxx := g3'.x
    have hn3 : ¬ SvO S M ms n3 := fun e => by have := hso3 _ e; omega
    refine AW.draw (X := ⟨_, 133, _, _⟩) (id := 20) mixed (.take 0 <| .take 1 <| .take 2 <| .take 3 <| .take 4 <| .take 5 <| .take 6 <| .take 7 <| .take 8 <| .take 9 <| .take 10 <| .each 11 [] (.take 12 <| .take 13 <| .take 14 <| .take 15 <| .each 16 [12, 13, 14, 15] (.each 17 [14, 15] (.take 18 <| .take 19 <| .done) <| .stop) <| .stop) <| .each 16 [0, 1, 2, 3, 4, 5, 6, 7, 8, 9, 10] (.each 11 [] (.take 12 <| .take 13 <| .take 14 <| .take 15 <| .each 17 [14, 15] (.take 18 <| .take 19 <| .done) <| .stop) <| .stop) <| .stop) (by kernel_rfl) ?_
    simp (disch := omega) [-hset_if, -Bool.decide_and, hset_ne, hs4.ix elemS22, hs4.load0 shp3, hs4.load shp3, hs4.load shp35, hs4.fresh hD, hs4.fresh0 hD, Addr.add_add]
    refine ⟨?_, ?_⟩
    · refine Handle_ok (a := (at_ l (j : Int)).ask) g3'.svr ?_
      rw [hx]
      intro n4 H5 ms4 d1 d2 d3 d4 d5
      have hk5 : H5 n3 = .cells [.int .i64 (at_ l (j : Int)).client, .int .i64 (at_ l (j : Int)).ask.inv] 50 1 := by rw [d2 _ (by omega) (fun e => hn3 (e ▸ .inl rfl)) (fun e => hn3 (e ▸ .inr (.inl rfl)))]; exact hk4
      have hso4 := fun i hi => d5.lt' (i := i) hi
      simp (disch := omega) [-hset_if, -Bool.decide_and, hset_ne, hdV]
      generalize hH6 : hset n4 _ H5 = H6
      have hfr6 : ∀ i, i < n4 → H6 i = H5 i := fun i hi => by rw [← hH6, hset_ne (by omega)]
      have d2' : ∀ i, i < n3 + 1 → ¬ SvO S M ms i → H6 i = H4 i := fun i hi hno => by rw [hfr6 i (by omega), d2 i hi (fun e => hno (.inl e)) (fun e => hno (.inr (.inl e)))]
      have g6 := g3'.hnd hx (n4 := n4 + 1) (H4 := H6) (by omega) d2' d3 d4 (d5.frame (by omega) hfr6)
      clear hH6
      have hk6 : H6 n3 = .cells [.int .i64 (at_ l (j : Int)).client, .int .i64 (at_ l (j : Int)).ask.inv] 50 1 := by rw [d2' _ (by omega) hn3]; exact hk4
      have hm6 : MapG prK H6 n1 kv := g3'.map.frame (d2' _ (by omega) (fun e => (g3.so _ e).2.1 rfl))
      have hb6 : H6 (n1 + 1) = .cells [.int .i64 now.1, .int .i64 now.2] 50 1 := by rw [d2' _ (by omega) (fun e => (g3.so _ e).2.2 rfl)]; exact hbox
      have hs6 : SlR ⟨Try.prog, w0⟩ H6 D 11 Opn.cells pv l := hs4.frame (fun i hi => d2' i (by have := hD i hi; omega) (fun e => by have := g3.so _ e; have := hD i hi; omega))
      have hfr : ∀ i, i < n → H6 i = H i := fun i hi => by rw [d2' i (by omega) (fun e => by have := g3.so _ e; omega), hfr4 i (by omega)]; exact g2 i hi
      obtain ⟨f1, f2⟩ := g6
      refine gif_var (fun c3 => ?_) (fun c3 => ?_)
      · obtain ⟨q1, q2, q3, q4⟩ := f2 c3
        simp (disch := omega) [-hset_if, -Bool.decide_and, hset_ne, q1, hk6]
        refine (MapG.look (C := ⟨Try.prog, w0⟩) (f := prK) (x := ((at_ l (j : Int)).client, (at_ l (j : Int)).ask.inv)) (ok := false) hm6 prI mapT48 zeroV4 prOk).mpr ?_
        rw [List.find?_eq_none.2 (fun p hp => by have := q3 p hp; simp only [decide_eq_true_eq]; exact fun e => this e.symm)]
        simp only [lkG, Bool.false_eq_true, if_false]
        simp (disch := omega) [-hset_if, -Bool.decide_and, hset_ne, hs6.ix elemS22, hs6.load0 shp3, hs6.load shp3, Addr.add_add, q2, c3, hk6, hb6]
        refine Next.mk (j + 1, k) (by first | omega | (dsimp only; omega)) (by simp (disch := omega) [-hset_if, -Bool.decide_and, hset_ne]) ⟨by dsimp only; omega, fun i hi => ?_, ⟨_, _, _, _, q4, hkv⟩⟩
        rw [hset_ne (by omega)]
        exact hfr i hi
      · have f3 := f1 c3
        simp (disch := omega) [-hset_if, -Bool.decide_and, hset_ne, c3]
        exact Next.mk (j + 1, k) (by first | omega | (dsimp only; omega)) (by simp (disch := omega) [-hset_if, -Bool.decide_and, hset_ne]) ⟨by dsimp only; omega, hfr, ⟨_, _, _, _, f3, hkv⟩⟩
    · refine Handle_ok (a := (at_ l (j : Int)).ask) (g3'.svr.frame (n' := n3 + 1 + 1) (by omega) (fun i hi => hset_ne (by omega) _ _)) ?_
      rw [hx]
      intro n4 H5 ms4 d1 d2 d3 d4 d5
      have hn3' : ¬ SvO S M ms (n3 + 1) := fun e => by have := hso _ e; omega
      have hk5 : H5 n3 = .cells [.int .i64 (at_ l (j : Int)).client, .int .i64 (at_ l (j : Int)).ask.inv] 50 1 := by rw [d2 _ (by omega) (fun e => hn3 (e ▸ .inl rfl)) (fun e => hn3 (e ▸ .inr (.inl rfl))), hset_ne (by omega)]; exact hk4
      have hb5 : H5 (n3 + 1) = .cells [.int .i64 0, .int .i64 0, .int .i64 0, .string ⟨#[]⟩] 33 1 := by rw [d2 _ (by omega) (fun e => hn3' (e ▸ .inl rfl)) (fun e => hn3' (e ▸ .inr (.inl rfl))), hset_same]
      simp (disch := omega) [-hset_if, -Bool.decide_and, hset_ne, hdV, hb5]
      generalize hH6 : hset (n3 + 1) _ H5 = H6
      have hfr6 : ∀ i, i ≠ n3 + 1 → H6 i = H5 i := fun i hi => by rw [← hH6, hset_ne hi]
      have d2' : ∀ i, i < n3 + 1 → ¬ SvO S M ms i → H6 i = H4 i := fun i hi hno => by rw [hfr6 i (by omega), d2 i (by omega) (fun e => hno (.inl e)) (fun e => hno (.inr (.inl e))), hset_ne (by omega)]
      have g6 := g3'.hnd hx (n4 := n4) (H4 := H6) (by omega) d2' d3 (fun i hi => by rcases d4 i hi with z | z; exact .inl z; exact .inr (by omega)) (d5.frameD (Nat.le_refl _) (fun i hi => hfr6 i (fun e => by subst e; rcases d4 _ hi with z | z; exact hn3' z; omega)))
      clear hH6
      have hk6 : H6 n3 = .cells [.int .i64 (at_ l (j : Int)).client, .int .i64 (at_ l (j : Int)).ask.inv] 50 1 := by rw [d2' _ (by omega) hn3]; exact hk4
      have hm6 : MapG prK H6 n1 kv := g3'.map.frame (d2' _ (by omega) (fun e => (g3.so _ e).2.1 rfl))
      have hb6 : H6 (n1 + 1) = .cells [.int .i64 now.1, .int .i64 now.2] 50 1 := by rw [d2' _ (by omega) (fun e => (g3.so _ e).2.2 rfl)]; exact hbox
      have hs6 : SlR ⟨Try.prog, w0⟩ H6 D 11 Opn.cells pv l := hs4.frame (fun i hi => d2' i (by have := hD i hi; omega) (fun e => by have := g3.so _ e; have := hD i hi; omega))
      have hfr : ∀ i, i < n → H6 i = H i := fun i hi => by rw [d2' i (by omega) (fun e => by have := g3.so _ e; omega), hfr4 i (by omega)]; exact g2 i hi
      obtain ⟨f1, f2⟩ := g6
      refine gif_var (fun c3 => ?_) (fun c3 => ?_)
      · obtain ⟨q1, q2, q3, q4⟩ := f2 c3
        simp (disch := omega) [-hset_if, -Bool.decide_and, hset_ne, q1, hk6]
        refine (MapG.look (C := ⟨Try.prog, w0⟩) (f := prK) (x := ((at_ l (j : Int)).client, (at_ l (j : Int)).ask.inv)) (ok := false) hm6 prI mapT48 zeroV4 prOk).mpr ?_
        rw [List.find?_eq_none.2 (fun p hp => by have := q3 p hp; simp only [decide_eq_true_eq]; exact fun e => this e.symm)]
        simp only [lkG, Bool.false_eq_true, if_false]
        simp (disch := omega) [-hset_if, -Bool.decide_and, hset_ne, hs6.ix elemS22, hs6.load0 shp3, hs6.load shp3, Addr.add_add, q2, c3, hk6, hb6]
        refine Next.mk (j + 1, k) (by first | omega | (dsimp only; omega)) (by simp (disch := omega) [-hset_if, -Bool.decide_and, hset_ne]) ⟨by dsimp only; omega, fun i hi => ?_, ⟨_, _, _, _, q4, hkv⟩⟩
        rw [hset_ne (by omega)]
        exact hfr i hi
      · have f3 := f1 c3
        simp (disch := omega) [-hset_if, -Bool.decide_and, hset_ne, c3]
        exact Next.mk (j + 1, k) (by first | omega | (dsimp only; omega)) (by simp (disch := omega) [-hset_if, -Bool.decide_and, hset_ne]) ⟨by dsimp only; omega, hfr, ⟨_, _, _, _, f3, hkv⟩⟩
  · simp (disch := omega) [-hset_if, -Bool.decide_and, hset_ne]
    have hdk : 0 ≤ sv.done ∧ sv.done < 1000 := by rw [g3.done]; omega
    have hlenk : (memOf ms sv.nowC).1.length < 1000 := by have := hlm sv.nowC; omega
    have hnewk : ¬ (sv.nowC = 0 ∧ sv.nowI = 0) → ∀ p ∈ (memOf ms sv.nowC).1, p.1 ≠ sv.nowI := fun hb p hp e => by
      obtain ⟨e1, e2⟩ := g3.busy hb
      rw [e1] at e2
      exact e2 (.inl ⟨p, hp, e⟩)
    generalize hx : finP sv (at_ l (j : Int)).code (at_ l (j : Int)).data (memOf ms) = x
    have hso : ∀ i, SvO S M ms i → i < n3 := fun i hi => g3.svr.lt' hi
    have hbox := g3.box
    have hnb := g3.nb
    have hxx := g3.x
    refine AW.draw (X := ⟨_, 133, _, _⟩) (id := 15) mixed (.take 0 <| .take 1 <| .take 2 <| .take 3 <| .take 4 <| .take 5 <| .take 6 <| .take 7 <| .take 8 <| .take 9 <| .take 10 <| .each 11 [] (.take 12 <| .take 13 <| .take 14 <| .each 15 [12, 13, 14] (.each 16 [14] (.take 17 <| .done) <| .stop) <| .stop) <| .each 15 [0, 1, 2, 3, 4, 5, 6, 7, 8, 9, 10] (.each 11 [] (.take 12 <| .take 13 <| .take 14 <| .each 16 [14] (.take 17 <| .done) <| .stop) <| .stop) <| .stop) (by kernel_rfl) ?_
    simp (disch := omega) [-hset_if, -Bool.decide_and, hset_ne, hs3.ix elemS22, hs3.load0 shp3, hs3.load shp3, hs3.load shp26, hs3.load shp9, hs3.fresh hD, hs3.fresh0 hD]
    refine ⟨?_, ?_⟩
    · refine Finish_ok g3.svr hdk hlenk hnewk ?_
      rw [hx]
      intro n4 H4 ms4 d1 d2 d3 d4 d5
      have hb4 : H4 (n1 + 1) = .cells [.int .i64 now.1, .int .i64 now.2] 50 1 := by rw [d2 _ (by omega) (fun e => (g3.so _ e).2.2 rfl)]; exact hbox
      have hso4 := fun i hi => d5.lt' (i := i) hi
      simp (disch := omega) [-hset_if, -Bool.decide_and, hset_ne, fnV, hb4]
      generalize hH5 : hset n4 _ H4 = H5
      have hfr5 : ∀ i, i < n4 → H5 i = H4 i := fun i hi => by rw [← hH5, hset_ne (by omega)]
      have g6 := g3.fin hx (n4 := n4 + 1) (H4 := H5) (by omega) (fun i hi hno => by rw [hfr5 i (by omega)]; exact d2 i hi hno) d3 d4 (d5.frame (by omega) hfr5)
      have hb4 : H5 (n1 + 1) = .cells [.int .i64 now.1, .int .i64 now.2] 50 1 := by rw [hfr5 _ (by omega)]; exact hb4
      have hm4 : MapG prK H5 n1 kv := g3.map.frame (by rw [hfr5 _ (by omega)]; exact d2 _ (by omega) (fun e => (g3.so _ e).2.1 rfl))
      have hfr : ∀ i, i < n → H5 i = H i := fun i hi => by rw [hfr5 i (by omega), d2 i (by omega) (fun e => by have := g3.so _ e; omega)]; exact g2 i hi
      clear hH5
      obtain ⟨f1, f2⟩ := g6
      refine cif_beq (fun c3 => ?_) (fun c3 => ?_)
      · obtain ⟨f3, f4⟩ := f2 c3
        have hf4 := f1
        simp (disch := omega) [-hset_if, -Bool.decide_and, hset_ne, hb4]
        refine MapG.add (f := prK) (x := now) hm4 prI f3 mapT48 prOk ?_
        intro o ho
        simp (disch := omega) [-hset_if, -Bool.decide_and, hset_ne]
        have f5 := f4 o ho
        refine Next.mk (j + 1, k + 1) (by first | omega | (dsimp only; omega)) (by simp (disch := omega) [-hset_if, -Bool.decide_and, hset_ne]) ⟨by dsimp only; omega, fun i hi => ?_, ⟨_, _, _, _, f5, by simp [hkv]⟩⟩
        rw [hset_ne (by omega)]
        exact hfr i hi
      · have f3 := f1 c3
        simp (disch := omega) [-hset_if, -Bool.decide_and, hset_ne]
        exact Next.mk (j + 1, k) (by first | omega | (dsimp only; omega)) (by simp (disch := omega) [-hset_if, -Bool.decide_and, hset_ne]) ⟨by dsimp only; omega, hfr, ⟨_, _, _, _, f3, hkv⟩⟩
    · refine Finish_ok (g3.svr.frame (n' := n3 + 1) (by omega) (fun i hi => hset_ne (by omega) _ _)) hdk hlenk hnewk ?_
      rw [hx]
      intro n4 H4 ms4 d1 d2 d3 d4 d5
      have hb4 : H4 (n1 + 1) = .cells [.int .i64 now.1, .int .i64 now.2] 50 1 := by rw [d2 _ (by omega) (fun e => (g3.so _ e).2.2 rfl), hset_ne (by omega)]; exact hbox
      have hbx : H4 n3 = .cells [.int .i64 0, .int .i64 0, .int .i64 0, .string ⟨#[]⟩] 33 1 := by
        rw [d2 n3 (by omega) (fun e => by have := hso _ e; omega), hset_same]
      simp (disch := omega) [-hset_if, -Bool.decide_and, hset_ne, fnV, hb4, hbx]
      generalize hH5 : hset n3 _ H4 = H5
      have hfr5 : ∀ i, i ≠ n3 → H5 i = H4 i := fun i hi => by rw [← hH5, hset_ne hi]
      have hn3 : ¬ SvO S M ms n3 := fun e => by have := hso _ e; omega
      have g6 := g3.fin hx (n4 := n4) (H4 := H5) (by omega) (fun i hi hno => by rw [hfr5 i (by omega), d2 i (by omega) hno, hset_ne (by omega)]) d3 (fun i hi => by rcases d4 i hi with z | z; exact .inl z; exact .inr (by omega))
        (d5.frameD (Nat.le_refl _) (fun i hi => hfr5 i (fun e => by subst e; rcases d4 _ hi with z | z; exact hn3 z; omega)))
      have hb4 : H5 (n1 + 1) = .cells [.int .i64 now.1, .int .i64 now.2] 50 1 := by rw [hfr5 _ (by omega)]; exact hb4
      have hm4 : MapG prK H5 n1 kv := g3.map.frame (by rw [hfr5 _ (by omega), d2 _ (by omega) (fun e => (g3.so _ e).2.1 rfl), hset_ne (by omega)])
      have hfr : ∀ i, i < n → H5 i = H i := fun i hi => by rw [hfr5 i (by omega), d2 i (by omega) (fun e => by have := g3.so _ e; omega), hset_ne (by omega)]; exact g2 i hi
      clear hH5
      obtain ⟨f1, f2⟩ := g6
      refine cif_beq (fun c3 => ?_) (fun c3 => ?_)
      · obtain ⟨f3, f4⟩ := f2 c3
        have hf4 := f1
        simp (disch := omega) [-hset_if, -Bool.decide_and, hset_ne, hb4]
        refine MapG.add (f := prK) (x := now) hm4 prI f3 mapT48 prOk ?_
        intro o ho
        simp (disch := omega) [-hset_if, -Bool.decide_and, hset_ne]
        have f5 := f4 o ho
        refine Next.mk (j + 1, k + 1) (by first | omega | (dsimp only; omega)) (by simp (disch := omega) [-hset_if, -Bool.decide_and, hset_ne]) ⟨by dsimp only; omega, fun i hi => ?_, ⟨_, _, _, _, f5, by simp [hkv]⟩⟩
        rw [hset_ne (by omega)]
        exact hfr i hi
      · have f3 := f1 c3
        simp (disch := omega) [-hset_if, -Bool.decide_and, hset_ne]
        exact Next.mk (j + 1, k) (by first | omega | (dsimp only; omega)) (by simp (disch := omega) [-hset_if, -Bool.decide_and, hset_ne]) ⟨by dsimp only; omega, hfr, ⟨_, _, _, _, f3, hkv⟩⟩
end Go.Aw.S50
