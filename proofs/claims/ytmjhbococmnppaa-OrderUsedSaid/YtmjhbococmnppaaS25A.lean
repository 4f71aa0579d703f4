/-
  Chapter 25: programs; the reference's small functions.
-/
import Derived.Test.YtmjhbococmnppaaAwTab
import Derived.Test.YtmjhbococmnppaaAw17
import Derived.Test.YtmjhbococmnppaaAw20
namespace Go.Aw.S25
open Go.RowKit Go.Proofs Go.Aw.Tab
set_option linter.unusedSimpArgs false
set_option linter.unusedVariables false
set_option maxRecDepth 10000
set_option maxHeartbeats 1000000
set_option pp.deepTerms false
set_option pp.deepTerms.threshold 4
set_option pp.maxSteps 1500
theorem mixed : Try.prog.follows .mixedOrders = true := by kernel_rfl
structure Lk where
  node : ByteArray
  port : Int
  pt : ByteArray
  ck : Int
  cn : Int
  del : Bool
  ik : Int
  iv : Int
  deriving DecidableEq
instance : Inhabited Lk := ⟨⟨⟨#[]⟩, 0, ⟨#[]⟩, 0, 0, false, 0, 0⟩⟩
def Lk.cells (l : Lk) : List Value := [.string l.node, .int .i64 l.port, .string l.pt, .int .i64 l.ck, .int .i64 l.cn, .bool l.del, .int .i64 l.ik, .int .i64 l.iv]
structure Nd where
  name : ByteArray
  block : ByteArray
  ps : Value
  ins : Value
  lks : List Lk
instance : Inhabited Nd := ⟨⟨⟨#[]⟩, ⟨#[]⟩, .slice none 0 0, .slice none 0 0, []⟩⟩
def Nd.cells (d : Nd) : List Value := [.string d.name, .string d.block, d.ps, d.ins]
structure Dr where
  pt : ByteArray
  lv : Int
  lk : Lk
instance : Inhabited Dr := ⟨⟨⟨#[]⟩, 0, default⟩⟩
def Dr.cells (d : Dr) : List Value := [.string d.pt, .int .i64 d.lv, .string d.lk.node, .int .i64 d.lk.port, .string d.lk.pt, .int .i64 d.lk.ck, .int .i64 d.lk.cn, .bool d.lk.del, .int .i64 d.lk.ik, .int .i64 d.lk.iv]
structure Pg where
  nm : ByteArray
  per : Int
  nv : Value
  dv : Value
  nds : List Nd
  drs : List Dr
def Pg.val (p : Pg) : Value := .agg #[.string p.nm, .int .i64 p.per, p.nv, p.dv]
def intC (x : Int) : List Value := [.int .i64 x]
attribute [local simp] Lk.cells Nd.cells Dr.cells Pg.val intC
/-- A program in memory. -/
structure PrR (H : Heap) (w0 : World) (D : Nat → Prop) (p : Pg) : Prop where
  ns : SlR ⟨Try.prog, w0⟩ H D 4 Nd.cells p.nv p.nds
  is : ∀ d ∈ p.nds, SlR ⟨Try.prog, w0⟩ H D 8 Lk.cells d.ins d.lks
  ds : SlR ⟨Try.prog, w0⟩ H D 10 Dr.cells p.dv p.drs
  nb : p.nds.length ≤ 9223372036854775807
  ib : ∀ d ∈ p.nds, d.lks.length ≤ 9223372036854775807
  db : p.drs.length ≤ 9223372036854775807
  po : ∀ d ∈ p.nds, d.ps.oneCell' = true
variable {w0 : World} {n : Nat} {H : Heap} {K : Value → Nat → Heap → Prop} {p : Pg} {D E : Nat → Prop}
theorem PrR.frame {H' : Heap} (h : PrR H w0 D p) (f : ∀ i, D i → H' i = H i) : PrR H' w0 D p := ⟨h.ns.frame f, fun d hd => (h.is d hd).frame f, h.ds.frame f, h.nb, h.ib, h.db, h.po⟩
/-- At most so many nodes with at most 8 inputs, and 12 drives. -/
def smallB (p : Pg) (m : Int) : Bool := decide ((p.nds.length : Int) ≤ m ∧ p.drs.length ≤ 12 ∧ ∀ d ∈ p.nds, d.lks.length ≤ 8 ∧ d.name.size ≤ 100)
theorem PrR.atI (h : PrR H w0 D p) {j : Nat} (hj : j < p.nds.length) : SlR ⟨Try.prog, w0⟩ H D 8 Lk.cells (at_ p.nds (j : Int)).ins (at_ p.nds (j : Int)).lks := h.is _ (at_mem hj)
theorem mem_at {α : Type} [Inhabited α] {l : List α} {x : α} (h : x ∈ l) : ∃ q : Nat, q < l.length ∧ at_ l (q : Int) = x := by
  obtain ⟨q, hq, e⟩ := List.getElem_of_mem h
  exact ⟨q, hq, by rw [at_nat hq]; exact e⟩
theorem Small_ok {m : Int} (hp : PrR H w0 D p) (hD : ∀ i, D i → i < n) (hk : K (.bool (smallB p m)) n H) : ACall ⟨Try.prog, w0⟩ 12 [p.val, .int .i64 m] K n H := by
  refine ACall.res (fun K' hr => ?_) (by simp) hk
  refine ACall.run Try.func12 rfl Try.ntmps12 Try.results12 (by simp) fun J0 => ?_
  simp (disch := omega) [-hset_if, -Bool.decide_and, hset_ne, hp.ns.lenK, hp.ds.lenK]
  try rw [show (Value.agg #[.string p.nm, .int .i64 p.per, p.nv, p.dv]).cells.toList = [.string p.nm, .int .i64 p.per, p.nv, p.dv] from rfl]
  have hbx : hset n (.cells [.string p.nm, .int .i64 p.per, p.nv, p.dv] 25 1) H n = .cells [.string p.nm, .int .i64 p.per, p.nv, p.dv] 25 1 := hset_same _ _ _
  have hfr : ∀ i, i < n → hset n (.cells [.string p.nm, .int .i64 p.per, p.nv, p.dv] 25 1) H i = H i := fun i hi => hset_ne (by omega) _ _
  generalize hset n (.cells [.string p.nm, .int .i64 p.per, p.nv, p.dv] 25 1) H = H1 at *
  have hp1 : PrR H1 w0 D p := hp.frame (fun i hi => hfr i (hD i hi))
  have hnb := hp.nb
  repeat' (first | (with_reducible intro _; first | (exfalso; omega) | (simp (disch := omega) [-hset_if, -Bool.decide_and, hset_ne, hp1.ns.lenK, hp1.ds.lenK, hbx]) | skip) | (with_reducible refine And.intro ?_ ?_; omega) | with_reducible apply cif_dec | with_reducible apply cif_beq | with_reducible apply cif_bne | with_reducible apply cif_var | with_reducible apply gif_dec | with_reducible apply gif_ndec | with_reducible apply gif_beq | with_reducible apply gif_bne | with_reducible apply gif_nbeq | with_reducible apply gif_var)
  all_goals try (refine hr.fin ?_ (by omega) hfr; unfold smallB; rw [decide_eq_false (fun h => by omega)])
  refine AW.while (σ := Nat) (fun j => p.nds.length - j) (fun j => [(2, .pointer (some ⟨new n, 0, none⟩)), (5, .int .i64 (j : Int))])
    (fun j n2 H2 => n2 = n + 1 ∧ H2 = H1 ∧ j ≤ p.nds.length ∧ ∀ q : Nat, q < j → (at_ p.nds (q : Int)).lks.length ≤ 8 ∧ (at_ p.nds (q : Int)).name.size ≤ 100) 0 ?_ ?_ ?_
  · simp (disch := omega) [-hset_if, -Bool.decide_and, hset_ne]
  · exact ⟨rfl, rfl, by omega, by omega⟩
  rintro j n2 H2 ⟨rfl, rfl, g1, g2⟩
  simp (disch := omega) [-hset_if, -Bool.decide_and, hset_ne, hbx, hp1.ns.lenK]
  refine cif_dec (fun c1 => ?_) (fun c1 => ?_)
  · have hno : ¬ ((at_ p.nds (j : Int)).lks.length ≤ 8 ∧ (at_ p.nds (j : Int)).name.size ≤ 100) → smallB p m = false := fun e => by
      unfold smallB
      exact decide_eq_false (fun h => e (h.2.2 _ (at_mem (by omega))))
    simp (disch := omega) [-hset_if, -Bool.decide_and, hset_ne, hbx, hp1.ns.ix elemS22, hp1.ns.load shp45, hp1.ns.load shp9, (hp1.atI c1).lenK]
    repeat' (first | (with_reducible intro _; first | (exfalso; omega) | (simp (disch := omega) [-hset_if, -Bool.decide_and, hset_ne, hbx, hp1.ns.ix elemS22, hp1.ns.load shp45, hp1.ns.load shp9, (hp1.atI c1).lenK]) | skip) | (with_reducible refine And.intro ?_ ?_; omega) | with_reducible apply cif_dec | with_reducible apply cif_beq | with_reducible apply cif_bne | with_reducible apply cif_var | with_reducible apply gif_dec | with_reducible apply gif_ndec | with_reducible apply gif_beq | with_reducible apply gif_bne | with_reducible apply gif_nbeq | with_reducible apply gif_var)
    all_goals first
      | (refine hr.fin ?_ (by omega) hfr; rw [hno (by omega)])
      | (exact Next.mk (j + 1) (by omega) (by simp (disch := omega) [-hset_if, -Bool.decide_and, hset_ne]) ⟨rfl, rfl, by omega, fun q hq => (by by_cases e : q = j; subst e; omega; exact g2 q (by omega))⟩)
  · simp (disch := omega) [-hset_if, -Bool.decide_and, hset_ne]
    refine hr.fin ?_ (by omega) hfr
    have h : ∀ d ∈ p.nds, d.lks.length ≤ 8 ∧ d.name.size ≤ 100 := fun d hd => by
      obtain ⟨q, hq, rfl⟩ := mem_at hd
      exact g2 q (by omega)
    unfold smallB
    rw [decide_eq_true ⟨by omega, by omega, h⟩]
/-- The index of a node. -/
def findP (l : List Nd) (s : ByteArray) : Int := fidx (fun d => decide (d.name = s)) l
theorem Find_ok {s : ByteArray} (hp : PrR H w0 D p) (hD : ∀ i, D i → i < n) (hk : K (.int .i64 (findP p.nds s)) n H) : ACall ⟨Try.prog, w0⟩ 31 [p.val, .string s] K n H := by
  refine ACall.res (fun K' hr => ?_) (by simp) hk
  refine ACall.run Try.func31 rfl Try.ntmps31 Try.results31 (by simp) fun J0 => ?_
  simp (disch := omega) [-hset_if, -Bool.decide_and, hset_ne]
  try rw [show (Value.agg #[.string p.nm, .int .i64 p.per, p.nv, p.dv]).cells.toList = [.string p.nm, .int .i64 p.per, p.nv, p.dv] from rfl]
  have hbx : hset n (.cells [.string p.nm, .int .i64 p.per, p.nv, p.dv] 25 1) H n = .cells [.string p.nm, .int .i64 p.per, p.nv, p.dv] 25 1 := hset_same _ _ _
  have hfr : ∀ i, i < n → hset n (.cells [.string p.nm, .int .i64 p.per, p.nv, p.dv] 25 1) H i = H i := fun i hi => hset_ne (by omega) _ _
  generalize hset n (.cells [.string p.nm, .int .i64 p.per, p.nv, p.dv] 25 1) H = H1 at *
  have hp1 : PrR H1 w0 D p := hp.frame (fun i hi => hfr i (hD i hi))
  have hnb := hp.nb
  refine AW.while (σ := Nat) (fun j => p.nds.length - j) (fun j => [(1, .string s), (2, .pointer (some ⟨new n, 0, none⟩)), (5, .int .i64 (j : Int))])
    (fun j n2 H2 => n2 = n + 1 ∧ H2 = H1 ∧ j ≤ p.nds.length ∧ ∀ q : Nat, q < j → (at_ p.nds (q : Int)).name ≠ s) 0 ?_ ?_ ?_
  · simp (disch := omega) [-hset_if, -Bool.decide_and, hset_ne]
  · exact ⟨rfl, rfl, by omega, by omega⟩
  rintro j n2 H2 ⟨rfl, rfl, g1, g2⟩
  simp (disch := omega) [-hset_if, -Bool.decide_and, hset_ne, hbx, hp1.ns.lenK]
  refine cif_dec (fun c1 => ?_) (fun c1 => ?_)
  · simp (disch := omega) [-hset_if, -Bool.decide_and, hset_ne, hbx, hp1.ns.ix elemS22, hp1.ns.load shp9]
    refine cif_dec (fun c2 => ?_) (fun c2 => ?_)
    · simp (disch := omega) [-hset_if, -Bool.decide_and, hset_ne]
      refine hr.fin ?_ (by omega) hfr
      unfold findP
      rw [fidx_found (xs := p.nds) (p := fun d : Nd => decide (d.name = s)) (j := j) (by omega) (by simpa using c2) (fun q hq => by simpa using g2 q hq)]
    · simp (disch := omega) [-hset_if, -Bool.decide_and, hset_ne]
      exact Next.mk (j + 1) (by first | omega | (dsimp only; omega)) (by simp (disch := omega) [-hset_if, -Bool.decide_and, hset_ne]) ⟨rfl, rfl, by omega, fun q hq => (by by_cases e : q = j; subst e; exact c2; exact g2 q (by omega))⟩
  · simp (disch := omega) [-hset_if, -Bool.decide_and, hset_ne]
    refine hr.fin ?_ (by omega) hfr
    unfold findP
    rw [fidx_none (xs := p.nds) (p := fun d : Nd => decide (d.name = s)) (fun q hq => by simpa using g2 q (by omega))]
def knownB (l : List Nd) (k : Lk) : Bool := decide (k.node = ⟨#[]⟩) || l.any fun d => decide (d.name = k.node)
theorem known_ok {k : Lk} (hp : PrR H w0 D p) (hD : ∀ i, D i → i < n) (hk : K (.bool (knownB p.nds k)) n H) : ACall ⟨Try.prog, w0⟩ 32 [p.val, .agg k.cells.toArray] K n H := by
  refine ACall.res (fun K' hr => ?_) (by simp) hk
  refine ACall.run Try.func32 rfl Try.ntmps32 Try.results32 (by simp) fun J0 => ?_
  simp (disch := omega) [-hset_if, -Bool.decide_and, hset_ne]
  have hb1 : ∀ a b, hset (n + 1) b (hset n a H) n = a := fun a b => by rw [hset_ne (by omega), hset_same]
  have hb2 : ∀ a b, hset (n + 1) b (hset n a H) (n + 1) = b := fun a b => hset_same _ _ _
  have hfr : ∀ a b i, i < n → hset (n + 1) b (hset n a H) i = H i := fun a b i hi => by rw [hset_ne (by omega), hset_ne (by omega)]
  have hem : ∀ x : ByteArray, x = ⟨[].toArray⟩ ↔ x = ⟨#[]⟩ := fun x => Iff.rfl
  refine gif_var (fun c1 => ?_) (fun c1 => ?_)
  · simp (disch := omega) [-hset_if, -Bool.decide_and, hset_ne]
    refine hr.fin ?_ (by omega) (hfr _ _)
    unfold knownB
    rw [decide_eq_true (by simpa using c1)]; rfl
  · simp (disch := omega) [-hset_if, -Bool.decide_and, hset_ne, hb1, hb2]
    refine Find_ok (hp.frame (fun i hi => hfr _ _ i (hD i hi))) (fun i hi => by have := hD i hi; omega) ?_
    simp (disch := omega) [-hset_if, -Bool.decide_and, hset_ne]
    refine hr.fin ?_ (by omega) (hfr _ _)
    unfold knownB findP
    have e := fidx_any (fun d : Nd => decide (d.name = k.node)) p.nds
    rw [decide_eq_false (by simpa using c1), Bool.false_or, ← e]
theorem has_ok {v : Value} {l : List Int} {x : Int} (hs : SlR ⟨Try.prog, w0⟩ H D 1 intC v l) (hb : l.length < 9223372036854775807) (hk : K (.bool (decide (x ∈ l))) n H) : ACall ⟨Try.prog, w0⟩ 37 [v, .int .i64 x] K n H := by
  refine ACall.res (fun K' hr => ?_) (by simp) hk
  refine ACall.run Try.func37 rfl Try.ntmps37 Try.results37 (by simp) fun J0 => ?_
  simp (disch := omega) [-hset_if, -Bool.decide_and, hset_ne]
  refine AW.while (σ := Nat) (fun j => l.length - j) (fun j => [(0, v), (1, .int .i64 x), (5, .int .i64 (j : Int))])
    (fun j n2 H2 => n2 = n ∧ H2 = H ∧ j ≤ l.length ∧ ∀ q : Nat, q < j → at_ l (q : Int) ≠ x) 0 ?_ ?_ ?_
  · simp (disch := omega) [-hset_if, -Bool.decide_and, hset_ne]
  · exact ⟨rfl, rfl, by omega, by omega⟩
  rintro j n2 H2 ⟨rfl, rfl, g1, g2⟩
  simp (disch := omega) [-hset_if, -Bool.decide_and, hset_ne, hs.lenK]
  refine cif_dec (fun c1 => ?_) (fun c1 => ?_)
  · simp (disch := omega) [-hset_if, -Bool.decide_and, hset_ne, hs.ix elemS35, hs.load0 shp3]
    refine cif_beq (fun c2 => ?_) (fun c2 => ?_)
    · simp (disch := omega) [-hset_if, -Bool.decide_and, hset_ne]
      refine hr.fin ?_ (by omega) (fun i hi => by simp (disch := omega) only [hset_ne])
      rw [decide_eq_true (c2 ▸ at_mem (by omega))]
    · simp (disch := omega) [-hset_if, -Bool.decide_and, hset_ne]
      exact Next.mk (j + 1) (by first | omega | (dsimp only; omega)) (by simp (disch := omega) [-hset_if, -Bool.decide_and, hset_ne]) ⟨rfl, rfl, by omega, fun q hq => (by by_cases e : q = j; subst e; exact c2; exact g2 q (by omega))⟩
  · simp (disch := omega) [-hset_if, -Bool.decide_and, hset_ne]
    refine hr.fin ?_ (by omega) (fun i hi => by simp (disch := omega) only [hset_ne])
    rw [decide_eq_false (fun h => by obtain ⟨q, hq, e⟩ := mem_at h; exact g2 q (by omega) e)]
/-- Lists of numbers in memory. -/
structure FsR (H : Heap) (w0 : World) (D : Nat → Prop) (v : Value) (fs : List (List Int)) : Prop where
  ex : ∃ rs : List (Value × List Int), rs.map (·.2) = fs ∧ SlR ⟨Try.prog, w0⟩ H D 1 (fun r => [r.1]) v rs ∧ ∀ r ∈ rs, SlR ⟨Try.prog, w0⟩ H D 1 intC r.1 r.2
theorem FsR.frame {v : Value} {fs : List (List Int)} {H' : Heap} (h : FsR H w0 D v fs) (f : ∀ i, D i → H' i = H i) : FsR H' w0 D v fs := by
  obtain ⟨rs, a, b, c⟩ := h
  exact ⟨rs, a, b.frame f, fun r hr => (c r hr).frame f⟩
theorem Same_ok {v w : Value} {a b : List Int} (ha : SlR ⟨Try.prog, w0⟩ H D 1 intC v a) (hb : SlR ⟨Try.prog, w0⟩ H E 1 intC w b) (hl : a.length < 9223372036854775807) (hk : K (.bool (decide (a = b))) n H) : ACall ⟨Try.prog, w0⟩ 17 [v, w] K n H := by
  refine ACall.res (fun K' hr => ?_) (by simp) hk
  refine ACall.run Try.func17 rfl Try.ntmps17 Try.results17 (by simp) fun J0 => ?_
  simp (disch := omega) [-hset_if, -Bool.decide_and, hset_ne, ha.lenK, hb.lenK]
  refine cif_bne (fun c0 => ?_) (fun c0 => ?_)
  rotate_left
  · simp (disch := omega) [-hset_if, -Bool.decide_and, hset_ne]
    refine hr.fin ?_ (by omega) (fun i hi => by simp (disch := omega) only [hset_ne])
    rw [decide_eq_false (fun e => by rw [e] at c0; exact c0 rfl)]
  have hlen : a.length = b.length := by omega
  simp (disch := omega) [-hset_if, -Bool.decide_and, hset_ne]
  refine AW.while (σ := Nat) (fun j => a.length - j) (fun j => [(0, v), (1, w), (5, .int .i64 (j : Int))])
    (fun j n2 H2 => n2 = n ∧ H2 = H ∧ j ≤ a.length ∧ ∀ q : Nat, q < j → at_ a (q : Int) = at_ b (q : Int)) 0 ?_ ?_ ?_
  · simp (disch := omega) [-hset_if, -Bool.decide_and, hset_ne]
  · exact ⟨rfl, rfl, by omega, by omega⟩
  rintro j n2 H2 ⟨rfl, rfl, g1, g2⟩
  simp (disch := omega) [-hset_if, -Bool.decide_and, hset_ne, ha.lenK]
  refine cif_dec (fun c1 => ?_) (fun c1 => ?_)
  · simp (disch := omega) [-hset_if, -Bool.decide_and, hset_ne]
    refine AW.draw (X := ⟨_, 26, _, _⟩) (id := 6) mixed (.take 0 <| .take 1 <| .take 2 <| .take 3 <| .take 4 <| .take 5 <| .take 6 <| .take 7 <| .take 8 <| .done) (by kernel_rfl) ?_
    simp (disch := omega) [-hset_if, -Bool.decide_and, hset_ne, ha.ix elemS35, hb.ix elemS35, ha.load0 shp3, hb.load0 shp3, hlen]
    refine cif_bne (fun c2 => ?_) (fun c2 => ?_)
    · simp (disch := omega) [-hset_if, -Bool.decide_and, hset_ne]
      exact Next.mk (j + 1) (by first | omega | (dsimp only; omega)) (by simp (disch := omega) [-hset_if, -Bool.decide_and, hset_ne]) ⟨rfl, rfl, by omega, fun q hq => (by by_cases e : q = j; subst e; exact c2; exact g2 q (by omega))⟩
    · simp (disch := omega) [-hset_if, -Bool.decide_and, hset_ne]
      refine hr.fin ?_ (by omega) (fun i hi => by simp (disch := omega) only [hset_ne])
      rw [decide_eq_false (fun e => by rw [e] at c2; exact c2 rfl)]
  · simp (disch := omega) [-hset_if, -Bool.decide_and, hset_ne]
    refine hr.fin ?_ (by omega) (fun i hi => by simp (disch := omega) only [hset_ne])
    rw [decide_eq_true]
    refine List.ext_getElem hlen fun q h1 h2 => ?_
    have := g2 q (by omega)
    rwa [at_nat h1, at_nat h2] at this
def readyB (f done : List Int) : Bool := f.all fun i => decide (i ∈ done)
theorem ready_ok {v w : Value} {fs : List (List Int)} {done : List Int} {k : Nat} (hf : FsR H w0 D v fs) (hd : SlR ⟨Try.prog, w0⟩ H E 1 intC w done) (hk0 : k < fs.length) (hl : (at_ fs (k : Int)).length < 9223372036854775807) (hl2 : done.length < 9223372036854775807)
    (hk : K (.bool (readyB (at_ fs (k : Int)) done)) n H) : ACall ⟨Try.prog, w0⟩ 38 [v, w, .int .i64 (k : Int)] K n H := by
  obtain ⟨rs, rfl, h1, h2⟩ := hf
  rw [List.length_map] at hk0
  have e : at_ (rs.map (·.2)) (k : Int) = (at_ rs (k : Int)).2 := at_map hk0
  rw [e] at hl hk
  have h3 := h2 _ (at_mem hk0)
  refine ACall.res (fun K' hr => ?_) (by simp) hk
  refine ACall.run Try.func38 rfl Try.ntmps38 Try.results38 (by simp) fun J0 => ?_
  simp (disch := omega) [-hset_if, -Bool.decide_and, hset_ne]
  refine AW.while (σ := Nat) (fun j => (at_ rs (k : Int)).2.length - j) (fun j => [(0, v), (1, w), (2, .int .i64 (k : Int)), (7, .int .i64 (j : Int))])
    (fun j n2 H2 => n2 = n ∧ H2 = H ∧ j ≤ (at_ rs (k : Int)).2.length ∧ ∀ q : Nat, q < j → at_ (at_ rs (k : Int)).2 (q : Int) ∈ done) 0 ?_ ?_ ?_
  · simp (disch := omega) [-hset_if, -Bool.decide_and, hset_ne]
  · exact ⟨rfl, rfl, by omega, by omega⟩
  rintro j n2 H2 ⟨rfl, rfl, g1, g2⟩
  simp (disch := omega) [-hset_if, -Bool.decide_and, hset_ne, h1.ix elemS30, h1.load0 shp35, h3.lenK]
  refine cif_dec (fun c1 => ?_) (fun c1 => ?_)
  · simp (disch := omega) [-hset_if, -Bool.decide_and, hset_ne, h1.ix elemS30, h1.load0 shp35, h3.lenK, h3.ix elemS35, h3.load0 shp3]
    refine has_ok hd hl2 ?_
    simp (disch := omega) [-hset_if, -Bool.decide_and, hset_ne]
    refine cif_var (fun c2 => ?_) (fun c2 => ?_)
    · simp (disch := omega) [-hset_if, -Bool.decide_and, hset_ne]
      exact Next.mk (j + 1) (by first | omega | (dsimp only; omega)) (by simp (disch := omega) [-hset_if, -Bool.decide_and, hset_ne]) ⟨rfl, rfl, by omega, fun q hq => (by by_cases e : q = j; subst e; simpa using c2; exact g2 q (by omega))⟩
    · simp (disch := omega) [-hset_if, -Bool.decide_and, hset_ne]
      refine hr.fin ?_ (by omega) (fun i hi => by simp (disch := omega) only [hset_ne])
      unfold readyB
      rw [List.all_eq_false.2 ⟨_, at_mem (j := j) (by omega), by simpa using c2⟩]
  · simp (disch := omega) [-hset_if, -Bool.decide_and, hset_ne]
    refine hr.fin ?_ (by omega) (fun i hi => by simp (disch := omega) only [hset_ne])
    unfold readyB
    rw [List.all_eq_true.2 (fun x hx => by obtain ⟨q, hq, e⟩ := mem_at hx; rw [← e]; exact decide_eq_true (g2 q (by omega)))]
/-- An input that comes from a node. -/
def tkB (nm : ByteArray) (b : Bool) (x : Lk) : Bool := !(decide (x.node = ⟨#[]⟩)) && decide (x.node = nm) && (b || !x.del)
/-- Node k takes an input from node i. -/
def takesB (l : List Nd) (i k : Nat) (del : Bool) : Bool := (at_ l (k : Int)).lks.any (tkB (at_ l (i : Int)).name del)
theorem takes_ok {i k : Nat} {b : Bool} (hp : PrR H w0 D p) (hD : ∀ i, D i → i < n) (hi : i < p.nds.length) (hk' : k < p.nds.length) (hk : K (.bool (takesB p.nds i k b)) n H) : ACall ⟨Try.prog, w0⟩ 34 [p.val, .int .i64 (i : Int), .int .i64 (k : Int), .bool b] K n H := by
  refine ACall.res (fun K' hr => ?_) (by simp) hk
  refine ACall.run Try.func34 rfl Try.ntmps34 Try.results34 (by simp) fun J0 => ?_
  simp (disch := omega) [-hset_if, -Bool.decide_and, hset_ne]
  try rw [show (Value.agg #[.string p.nm, .int .i64 p.per, p.nv, p.dv]).cells.toList = [.string p.nm, .int .i64 p.per, p.nv, p.dv] from rfl]
  have hbx : hset n (.cells [.string p.nm, .int .i64 p.per, p.nv, p.dv] 25 1) H n = .cells [.string p.nm, .int .i64 p.per, p.nv, p.dv] 25 1 := hset_same _ _ _
  have hfr : ∀ i, i < n → hset n (.cells [.string p.nm, .int .i64 p.per, p.nv, p.dv] 25 1) H i = H i := fun i hi => hset_ne (by omega) _ _
  generalize hset n (.cells [.string p.nm, .int .i64 p.per, p.nv, p.dv] 25 1) H = H1 at *
  have hp1 : PrR H1 w0 D p := hp.frame (fun i hi => hfr i (hD i hi))
  have hnb := hp.nb
  have hkb := hp.ib _ (at_mem hk')
  refine AW.while (σ := Nat) (fun j => (at_ p.nds (k : Int)).lks.length - j) (fun j => [(1, .int .i64 (i : Int)), (2, .int .i64 (k : Int)), (3, .bool b), (4, .pointer (some ⟨new n, 0, none⟩)), (9, .int .i64 (j : Int))])
    (fun j n2 H2 => j ≤ (at_ p.nds (k : Int)).lks.length ∧ (∀ i, i < n + 1 → H2 i = H1 i) ∧ n + 1 ≤ n2 ∧ ∀ q : Nat, q < j → tkB (at_ p.nds (i : Int)).name b (at_ (at_ p.nds (k : Int)).lks (q : Int)) = false) 0 ?_ ?_ ?_
  · simp (disch := omega) [-hset_if, -Bool.decide_and, hset_ne]
  · exact ⟨by omega, fun _ _ => rfl, by omega, by omega⟩
  rintro j n2 H2 ⟨g1, g2, g3, g4⟩
  have hp2 : PrR H2 w0 D p := hp1.frame (fun i hi => g2 i (by have := hD i hi; omega))
  have hb2 := hbx
  rw [← g2 n (by omega)] at hb2
  simp (disch := omega) [-hset_if, -Bool.decide_and, hset_ne, hb2, hp2.ns.ix elemS22, hp2.ns.load shp45, (hp2.atI hk').lenK]
  refine cif_dec (fun c1 => ?_) (fun c1 => ?_)
  · obtain ⟨x, hx⟩ : ∃ x, at_ (at_ p.nds (k : Int)).lks (j : Int) = x := ⟨_, rfl⟩
    simp (disch := omega) [-hset_if, -Bool.decide_and, hset_ne, hb2, hp2.ns.ix elemS22, hp2.ns.load shp45, (hp2.atI hk').ix elemS45, (hp2.atI hk').load0 shp54, hx]
    have hb3 : hset n2 (.cells [.string x.node, .int .i64 x.port, .string x.pt, .int .i64 x.ck, .int .i64 x.cn, .bool x.del, .int .i64 x.ik, .int .i64 x.iv] 54 1) H2 n2 = (.cells [.string x.node, .int .i64 x.port, .string x.pt, .int .i64 x.ck, .int .i64 x.cn, .bool x.del, .int .i64 x.ik, .int .i64 x.iv] 54 1) := hset_same _ _ _
    have hf3 : ∀ i, i < n + 1 → hset n2 (.cells [.string x.node, .int .i64 x.port, .string x.pt, .int .i64 x.ck, .int .i64 x.cn, .bool x.del, .int .i64 x.ik, .int .i64 x.iv] 54 1) H2 i = H1 i := fun i hi => by rw [hset_ne (by omega), g2 i hi]
    generalize hset n2 (.cells [.string x.node, .int .i64 x.port, .string x.pt, .int .i64 x.ck, .int .i64 x.cn, .bool x.del, .int .i64 x.ik, .int .i64 x.iv] 54 1) H2 = H3 at *
    have hp3 : PrR H3 w0 D p := hp1.frame (fun i hi => hf3 i (by have := hD i hi; omega))
    have hb4 := hbx
    rw [← hf3 n (by omega)] at hb4
    refine AW.draw (X := ⟨_, 53, _, _⟩) (id := 5) mixed (.take 0 <| .take 1 <| .take 2 <| .take 3 <| .take 4 <| .take 5 <| .take 6 <| .take 7 <| .take 8 <| .take 9 <| .take 10 <| .take 11 <| .take 12 <| .take 13 <| .take 14 <| .take 15 <| .take 16 <| .take 17 <| .take 18 <| .take 19 <| .take 20 <| .take 21 <| .done) (by kernel_rfl) ?_
    by_cases hv : tkB (at_ p.nds (i : Int)).name b x = true
    · have hv2 := hv
      unfold tkB at hv2
      simp only [Bool.and_eq_true, Bool.not_eq_true', decide_eq_false_iff_not, decide_eq_true_eq, Bool.or_eq_true] at hv2
      obtain ⟨⟨c2, c3⟩, c4⟩ := hv2
      have hgo : Fin n K' (.bool true) (n2 + 1) H3 := hr.fin (by unfold takesB; rw [List.any_eq_true.2 ⟨x, hx ▸ at_mem c1, hv⟩]) (by omega) (fun i hi => by rw [hf3 i (by omega), hfr i hi])
      have c2' : ¬ (at_ p.nds (i : Int)).name = ⟨#[]⟩ := c3 ▸ c2
      cases b with
      | true =>
        simp (disch := omega) [-hset_if, -Bool.decide_and, hset_ne, hb3, hb4, hp3.ns.ix elemS22, hp3.ns.load shp9, c2', c3]
        exact hgo
      | false =>
        have c5 : x.del = false := by simpa using c4
        simp (disch := omega) [-hset_if, -Bool.decide_and, hset_ne, hb3, hb4, hp3.ns.ix elemS22, hp3.ns.load shp9, c2', c3, c5]
        exact hgo
    · have hq : ∀ q : Nat, q < j + 1 → tkB (at_ p.nds (i : Int)).name b (at_ (at_ p.nds (k : Int)).lks (q : Int)) = false := fun q hq => by
        by_cases e : q = j
        · rw [e, hx]; simpa using hv
        · exact g4 q (by omega)
      by_cases c2 : x.node = ⟨#[]⟩
      · simp (disch := omega) [-hset_if, -Bool.decide_and, hset_ne, hb3, hb4, c2]
        exact Next.mk (j + 1) (by first | omega | (dsimp only; omega)) (by simp (disch := omega) [-hset_if, -Bool.decide_and, hset_ne]) ⟨by omega, hf3, by omega, hq⟩
      by_cases c3 : x.node = (at_ p.nds (i : Int)).name
      · have c2' : ¬ (at_ p.nds (i : Int)).name = ⟨#[]⟩ := c3 ▸ c2
        have c4 : b = false ∧ x.del = true := by
          unfold tkB at hv
          simp only [decide_eq_false c2, decide_eq_true c3, Bool.not_false, Bool.true_and, Bool.or_eq_true, not_or, Bool.not_eq_true, Bool.not_eq_true', Bool.not_eq_false] at hv
          exact hv
        obtain ⟨rfl, c5⟩ := c4
        simp (disch := omega) [-hset_if, -Bool.decide_and, hset_ne, hb3, hb4, hp3.ns.ix elemS22, hp3.ns.load shp9, c2', c3, c5]
        exact Next.mk (j + 1) (by first | omega | (dsimp only; omega)) (by simp (disch := omega) [-hset_if, -Bool.decide_and, hset_ne]) ⟨by omega, hf3, by omega, hq⟩
      · simp (disch := omega) [-hset_if, -Bool.decide_and, hset_ne, hb3, hb4, hp3.ns.ix elemS22, hp3.ns.load shp9, c2, c3]
        exact Next.mk (j + 1) (by first | omega | (dsimp only; omega)) (by simp (disch := omega) [-hset_if, -Bool.decide_and, hset_ne]) ⟨by omega, hf3, by omega, hq⟩
  · simp (disch := omega) [-hset_if, -Bool.decide_and, hset_ne]
    refine hr.fin ?_ (by omega) (fun i hi => by rw [g2 i (by omega), hfr i hi])
    unfold takesB
    rw [List.any_eq_false.2 (fun y hy => by obtain ⟨q, hq, e⟩ := mem_at hy; rw [← e]; simpa using g4 q (by omega))]
end Go.Aw.S25
/-
  Chapter 25: the reference's check of a program.
-/
namespace Go.Aw.S25
open Go.RowKit Go.Proofs Go.Aw.Tab
set_option linter.unusedSimpArgs false
set_option linter.unusedVariables false
set_option maxRecDepth 10000
set_option maxHeartbeats 1000000
set_option pp.deepTerms false
set_option pp.deepTerms.threshold 4
set_option pp.maxSteps 1500
attribute [local simp] Lk.cells Nd.cells Dr.cells Pg.val intC
variable {w0 : World} {n : Nat} {H : Heap} {K : Value → Nat → Heap → Prop} {p : Pg} {D E : Nat → Prop}
def nodupB (l : List Nd) : Bool := decide ((l.map (·.name)).Nodup)
def inB (l : List Nd) (d : Nd) : Bool := d.lks.all (knownB l)
def drB (l : List Nd) (d : Dr) : Bool := knownB l d.lk
/-- The first error of a program, or 0. -/
def checkP (p : Pg) : Int := if 64 < p.nds.length then 7 else if nodupB p.nds = false then 5 else if p.nds.all (inB p.nds) && p.drs.all (drB p.nds) then 0 else 3
theorem find_self {l : List Nd} {j : Nat} (hj : j < l.length) : ∃ q : Nat, findP l (at_ l (j : Int)).name = (q : Int) ∧ q ≤ j ∧ (at_ l (q : Int)).name = (at_ l (j : Int)).name := by
  have h : 0 ≤ findP l (at_ l (j : Int)).name := by
    have := fidx_any (fun d : Nd => decide (d.name = (at_ l (j : Int)).name)) l
    rw [List.any_eq_true.2 ⟨_, at_mem hj, by simp⟩] at this
    unfold findP
    exact of_decide_eq_true this
  obtain ⟨q, hq⟩ : ∃ q : Nat, findP l (at_ l (j : Int)).name = (q : Int) := ⟨_, (Int.toNat_of_nonneg h).symm⟩
  obtain ⟨h1, h2, h3⟩ := fidx_spec hq
  refine ⟨q, hq, ?_, by simpa using h2⟩
  by_cases e : q ≤ j
  · exact e
  · have := h3 j (by omega); simp at this
theorem nodup_at {l : List Nd} (h : nodupB l = true) {i j : Nat} (hi : i < l.length) (hj : j < l.length) (e : (at_ l (i : Int)).name = (at_ l (j : Int)).name) : i = j := by
  unfold nodupB at h
  have h := List.pairwise_iff_getElem.1 (of_decide_eq_true h)
  rw [at_nat hi, at_nat hj] at e
  rcases Nat.lt_trichotomy i j with c | c | c
  · exact absurd (by rw [List.getElem_map, List.getElem_map]; exact e) (h i j (by simpa using hi) (by simpa using hj) c)
  · exact c
  · exact absurd (by rw [List.getElem_map, List.getElem_map]; exact e.symm) (h j i (by simpa using hj) (by simpa using hi) c)
theorem nodup_of {l : List Nd} (h : ∀ i j : Nat, i < j → j < l.length → (at_ l (i : Int)).name ≠ (at_ l (j : Int)).name) : nodupB l = true := by
  unfold nodupB
  rw [decide_eq_true]
  refine List.pairwise_iff_getElem.2 fun i j h1 h2 h3 => ?_
  have := h i j h3 (by simpa using h2)
  rw [at_nat (by simp at h1; omega), at_nat (by simp at h2; omega)] at this
  simpa using this
theorem Check_ok (hp : PrR H w0 D p) (hD : ∀ i, D i → i < n) (hk : K (.int .i64 (checkP p)) n H) : ACall ⟨Try.prog, w0⟩ 13 [p.val] K n H := by
  refine ACall.res (fun K' hr => ?_) (by simp) hk
  refine ACall.run Try.func13 rfl Try.ntmps13 Try.results13 (by simp) fun J0 => ?_
  simp (disch := omega) [-hset_if, -Bool.decide_and, hset_ne, hp.ns.lenK]
  try rw [show (Value.agg #[.string p.nm, .int .i64 p.per, p.nv, p.dv]).cells.toList = [.string p.nm, .int .i64 p.per, p.nv, p.dv] from rfl]
  have hbx : hset n (.cells [.string p.nm, .int .i64 p.per, p.nv, p.dv] 25 1) H n = .cells [.string p.nm, .int .i64 p.per, p.nv, p.dv] 25 1 := hset_same _ _ _
  have hfr : ∀ i, i < n → hset n (.cells [.string p.nm, .int .i64 p.per, p.nv, p.dv] 25 1) H i = H i := fun i hi => hset_ne (by omega) _ _
  generalize hset n (.cells [.string p.nm, .int .i64 p.per, p.nv, p.dv] 25 1) H = H1 at *
  have hp1 : PrR H1 w0 D p := hp.frame (fun i hi => hfr i (hD i hi))
  have hnb := hp.nb
  have hD1 : ∀ i, D i → i < n + 1 := fun i hi => by have := hD i hi; omega
  refine cif_dec (fun c0 => ?_) (fun c0 => ?_)
  · simp (disch := omega) [-hset_if, -Bool.decide_and, hset_ne]
    refine hr.fin ?_ (by omega) hfr
    unfold checkP
    rw [if_pos (by omega)]
  have hdb := hp.db
  simp (disch := omega) [-hset_if, -Bool.decide_and, hset_ne]
  refine AW.while (σ := Nat) (fun j => p.nds.length - j) (fun j => [(1, .pointer (some ⟨new n, 0, none⟩)), (3, .int .i64 (j : Int))])
    (fun j n2 H2 => n + 1 = n2 ∧ H1 = H2 ∧ j ≤ p.nds.length ∧ ∀ q : Nat, q < j → findP p.nds (at_ p.nds (q : Int)).name = q) 0 ?_ ?_ ?_
  · simp (disch := omega) [-hset_if, -Bool.decide_and, hset_ne]
  · exact ⟨rfl, rfl, by omega, by omega⟩
  rintro j _ _ ⟨rfl, rfl, g1, g2⟩
  simp (disch := omega) [-hset_if, -Bool.decide_and, hset_ne, hbx, hp1.ns.lenK]
  refine cif_dec (fun c1 => ?_) (fun c1 => ?_)
  · simp (disch := omega) [-hset_if, -Bool.decide_and, hset_ne]
    refine AW.draw (X := ⟨_, 74, _, _⟩) (id := 6) mixed (.take 0 <| .take 1 <| .take 2 <| .take 3 <| .take 4 <| .take 5 <| .take 6 <| .take 8 <| .each 7 [8] (.take 9 <| .done) <| .stop) (by kernel_rfl) ?_
    simp (disch := omega) [-hset_if, -Bool.decide_and, hset_ne, hbx, hp1.ns.ix elemS22, hp1.ns.load shp9]
    refine Find_ok hp1 hD1 ?_
    simp (disch := omega) [-hset_if, -Bool.decide_and, hset_ne]
    refine cif_bne (fun c2 => ?_) (fun c2 => ?_)
    · simp (disch := omega) [-hset_if, -Bool.decide_and, hset_ne]
      exact Next.mk (j + 1) (by first | omega | (dsimp only; omega)) (by simp (disch := omega) [-hset_if, -Bool.decide_and, hset_ne]) ⟨rfl, rfl, by omega, fun q hq => (by by_cases e : q = j; subst e; exact c2; exact g2 q (by omega))⟩
    · simp (disch := omega) [-hset_if, -Bool.decide_and, hset_ne]
      refine hr.fin ?_ (by omega) hfr
      obtain ⟨q, h1, h2, h3⟩ := find_self c1
      have hn : nodupB p.nds = false := by
        cases e : nodupB p.nds with
        | false => rfl
        | true => exact absurd (nodup_at e (by omega) c1 h3) (by omega)
      unfold checkP
      rw [if_neg (by omega), if_pos hn]
  have hn : nodupB p.nds = true := nodup_of fun i k hik hk e => by
    have h1 := g2 i (by omega)
    have h2 := g2 k (by omega)
    rw [e] at h1
    omega
  have hch : checkP p = if p.nds.all (inB p.nds) && p.drs.all (drB p.nds) then 0 else 3 := by
    unfold checkP
    rw [if_neg (by omega), if_neg (by rw [hn]; simp)]
  clear g1 g2 c1
  simp (disch := omega) [-hset_if, -Bool.decide_and, hset_ne]
  refine AW.while (σ := Nat) (fun j => p.nds.length - j) (fun j => [(1, .pointer (some ⟨new n, 0, none⟩)), (4, .int .i64 (j : Int))])
    (fun j n2 H2 => n + 1 = n2 ∧ H1 = H2 ∧ j ≤ p.nds.length ∧ ∀ q : Nat, q < j → inB p.nds (at_ p.nds (q : Int)) = true) 0 ?_ ?_ ?_
  · simp (disch := omega) [-hset_if, -Bool.decide_and, hset_ne]
  · exact ⟨rfl, rfl, by omega, by omega⟩
  rintro j _ _ ⟨rfl, rfl, g1, g2⟩
  simp (disch := omega) [-hset_if, -Bool.decide_and, hset_ne, hbx, hp1.ns.lenK]
  refine cif_dec (fun c1 => ?_) (fun c1 => ?_)
  · have hib := hp.ib _ (at_mem (l := p.nds) (j := j) c1)
    simp (disch := omega) [-hset_if, -Bool.decide_and, hset_ne]
    refine AW.while (σ := Nat) (fun k => (at_ p.nds (j : Int)).lks.length - k) (fun k => [(1, .pointer (some ⟨new n, 0, none⟩)), (4, .int .i64 (j : Int)), (5, .int .i64 (k : Int))])
      (fun k n3 H3 => n + 1 = n3 ∧ H1 = H3 ∧ k ≤ (at_ p.nds (j : Int)).lks.length ∧ ∀ q : Nat, q < k → knownB p.nds (at_ (at_ p.nds (j : Int)).lks (q : Int)) = true) 0 ?_ ?_ ?_
    · simp (disch := omega) [-hset_if, -Bool.decide_and, hset_ne]
    · exact ⟨rfl, rfl, by omega, by omega⟩
    rintro k _ _ ⟨rfl, rfl, g3, g4⟩
    simp (disch := omega) [-hset_if, -Bool.decide_and, hset_ne, hbx, hp1.ns.ix elemS22, hp1.ns.load shp45, (hp1.atI c1).lenK]
    refine cif_dec (fun c2 => ?_) (fun c2 => ?_)
    · simp (disch := omega) [-hset_if, -Bool.decide_and, hset_ne]
      refine AW.draw (X := ⟨_, 74, _, _⟩) (id := 14) mixed (.take 0 <| .take 1 <| .take 2 <| .take 3 <| .take 4 <| .take 5 <| .take 6 <| .take 7 <| .take 8 <| .take 9 <| .each 10 [] (.take 11 <| .done) <| .stop) (by kernel_rfl) ?_
      simp (disch := omega) [-hset_if, -Bool.decide_and, hset_ne, hbx, hp1.ns.ix elemS22, hp1.ns.load shp45, (hp1.atI c1).ix elemS45, (hp1.atI c1).load0 shp54]
      refine known_ok (k := at_ (at_ p.nds (j : Int)).lks (k : Int)) hp1 hD1 ?_
      simp (disch := omega) [-hset_if, -Bool.decide_and, hset_ne]
      refine cif_var (fun c3 => ?_) (fun c3 => ?_)
      · simp (disch := omega) [-hset_if, -Bool.decide_and, hset_ne]
        exact Next.mk (k + 1) (by first | omega | (dsimp only; omega)) (by simp (disch := omega) [-hset_if, -Bool.decide_and, hset_ne]) ⟨rfl, rfl, by omega, fun q hq => (by by_cases e : q = k; subst e; exact c3; exact g4 q (by omega))⟩
      · simp (disch := omega) [-hset_if, -Bool.decide_and, hset_ne]
        refine hr.fin ?_ (by omega) hfr
        have hno : p.nds.all (inB p.nds) = false := List.all_eq_false.2 ⟨_, at_mem c1, fun e => (by have := List.all_eq_true.1 e _ (at_mem c2); rw [c3] at this; cases this)⟩
        rw [hch, hno]
        rfl
    · simp (disch := omega) [-hset_if, -Bool.decide_and, hset_ne]
      exact Next.mk (j + 1) (by first | omega | (dsimp only; omega)) (by simp (disch := omega) [-hset_if, -Bool.decide_and, hset_ne]) ⟨rfl, rfl, by omega, fun q hq => (by by_cases e : q = j; subst e; exact List.all_eq_true.2 (fun x hx => by obtain ⟨r, hr, e⟩ := mem_at hx; rw [← e]; exact g4 r (by omega)); exact g2 q (by omega))⟩
  have hall : p.nds.all (inB p.nds) = true := List.all_eq_true.2 (fun x hx => by obtain ⟨r, hr, e⟩ := mem_at hx; rw [← e]; exact g2 r (by omega))
  rw [hall, Bool.true_and] at hch
  clear g1 g2 c1
  simp (disch := omega) [-hset_if, -Bool.decide_and, hset_ne]
  refine AW.while (σ := Nat) (fun j => p.drs.length - j) (fun j => [(1, .pointer (some ⟨new n, 0, none⟩)), (6, .int .i64 (j : Int))])
    (fun j n2 H3 => n + 1 = n2 ∧ H1 = H3 ∧ j ≤ p.drs.length ∧ ∀ q : Nat, q < j → drB p.nds (at_ p.drs (q : Int)) = true) 0 ?_ ?_ ?_
  · simp (disch := omega) [-hset_if, -Bool.decide_and, hset_ne]
  · exact ⟨rfl, rfl, by omega, by omega⟩
  rintro j _ _ ⟨rfl, rfl, g1, g2⟩
  simp (disch := omega) [-hset_if, -Bool.decide_and, hset_ne, hbx, hp1.ds.lenK]
  refine cif_dec (fun c1 => ?_) (fun c1 => ?_)
  · simp (disch := omega) [-hset_if, -Bool.decide_and, hset_ne]
    refine AW.draw (X := ⟨_, 74, _, _⟩) (id := 19) mixed (.take 0 <| .take 1 <| .take 2 <| .take 3 <| .take 4 <| .take 5 <| .take 6 <| .each 7 [] (.take 8 <| .done) <| .stop) (by kernel_rfl) ?_
    simp (disch := omega) [-hset_if, -Bool.decide_and, hset_ne, hbx, hp1.ds.ix elemS23, hp1.ds.load shp54]
    refine known_ok (k := (at_ p.drs (j : Int)).lk) hp1 hD1 ?_
    simp (disch := omega) [-hset_if, -Bool.decide_and, hset_ne]
    refine cif_var (fun c3 => ?_) (fun c3 => ?_)
    · simp (disch := omega) [-hset_if, -Bool.decide_and, hset_ne]
      exact Next.mk (j + 1) (by first | omega | (dsimp only; omega)) (by simp (disch := omega) [-hset_if, -Bool.decide_and, hset_ne]) ⟨rfl, rfl, by omega, fun q hq => (by by_cases e : q = j; subst e; exact c3; exact g2 q (by omega))⟩
    · simp (disch := omega) [-hset_if, -Bool.decide_and, hset_ne]
      refine hr.fin ?_ (by omega) hfr
      rw [hch, List.all_eq_false.2 ⟨_, at_mem c1, fun e => (by unfold drB at e; rw [c3] at e; cases e)⟩]
      rfl
  · simp (disch := omega) [-hset_if, -Bool.decide_and, hset_ne]
    refine hr.fin ?_ (by omega) hfr
    rw [hch, List.all_eq_true.2 (fun x hx => by obtain ⟨r, hr, e⟩ := mem_at hx; rw [← e]; exact g2 r (by omega))]
    rfl
end Go.Aw.S25
/-
  Chapter 25: the reference's feeds.
-/
namespace Go.Aw.S25
open Go.RowKit Go.Proofs Go.Aw.Tab
set_option linter.unusedSimpArgs false
set_option linter.unusedVariables false
set_option maxRecDepth 10000
set_option maxHeartbeats 1000000
set_option pp.deepTerms false
set_option pp.deepTerms.threshold 4
set_option pp.maxSteps 1500
attribute [local simp] Lk.cells Nd.cells Dr.cells Pg.val intC
variable {w0 : World} {n : Nat} {H : Heap} {K : Value → Nat → Heap → Prop} {p : Pg} {D E : Nat → Prop}
/-- The nodes below j that feed node k. -/
def feedTo (l : List Nd) (del : Bool) (k j : Nat) : List Int := ((List.range j).filter fun i => takesB l i k del).map fun (i : Nat) => (i : Int)
def feedOf (l : List Nd) (del : Bool) (k : Nat) : List Int := feedTo l del k l.length
def feedsP (l : List Nd) (del : Bool) : List (List Int) := (List.range l.length).map (feedOf l del)
theorem feedTo_next (l : List Nd) (del : Bool) (k j : Nat) : feedTo l del k (j + 1) = feedTo l del k j ++ (if takesB l j k del then [(j : Int)] else []) := by
  unfold feedTo
  rw [List.range_succ, List.filter_append, List.map_append]
  congr 1
  by_cases h : takesB l j k del = true <;> simp [h]
theorem feedTo_len (l : List Nd) (del : Bool) (k j : Nat) : (feedTo l del k j).length ≤ j := by
  unfold feedTo
  rw [List.length_map]
  exact Nat.le_trans (List.length_filter_le _ _) (by simp)
/-- Lists that are made one behind the other: those before k are whole. -/
structure MkI (H : Heap) (w0 : World) (n j0 m : Nat) (v : Value) (N k : Nat) (fs : Nat → List Int) (rs : List (Value × List Int)) : Prop where
  ow : OwR ⟨Try.prog, w0⟩ H n (· = j0) 35 1 (fun r => [r.1]) v rs
  len : rs.length = N
  lt : j0 < m ∧ m ≤ n
  done : ∀ q : Nat, q < k → (at_ rs (q : Int)).2 = fs q ∧ SlR ⟨Try.prog, w0⟩ H (fun i => j0 < i ∧ i < m) 1 intC (at_ rs (q : Int)).1 (at_ rs (q : Int)).2
  rest : ∀ q : Nat, k < q → q < N → at_ rs (q : Int) = (.slice none 0 0, [])
structure MkO (H : Heap) (w0 : World) (n j0 : Nat) (v : Value) (N k : Nat) (fs : Nat → List Int) : Prop where
  ex : ∃ rs, MkI H w0 n j0 n v N k fs rs ∧ (k < N → at_ rs (k : Int) = (.slice none 0 0, []))
structure MkJ (H : Heap) (w0 : World) (n j0 : Nat) (v : Value) (N k : Nat) (fs : Nat → List Int) (l : List Int) : Prop where
  ex : ∃ rs m E, MkI H w0 n j0 m v N k fs rs ∧ (at_ rs (k : Int)).2 = l ∧ OwR ⟨Try.prog, w0⟩ H n E 3 1 intC (at_ rs (k : Int)).1 l ∧ ∀ i, E i → m ≤ i
theorem RFeeds_ok (hp : PrR H w0 D p) (hD : ∀ i, D i → i < n) (hl : p.nds.length ≤ 1000000)
    (hk : ∀ n' H' v, n ≤ n' → (∀ i, i < n → H' i = H i) → FsR H' w0 (fun i => n ≤ i ∧ i < n') v (feedsP p.nds false) → K v n' H') : ACall ⟨Try.prog, w0⟩ 16 [p.val] K n H := by
  refine ACall.run Try.func16 rfl Try.ntmps16 Try.results16 (by simp) fun J0 => ?_
  simp (disch := omega) [-hset_if, -Bool.decide_and, hset_ne, hp.ns.lenK]
  refine ⟨by omega, ?_⟩
  try rw [show (Value.agg #[.string p.nm, .int .i64 p.per, p.nv, p.dv]).cells.toList = [.string p.nm, .int .i64 p.per, p.nv, p.dv] from rfl]
  have ho := OwR.made (C := ⟨Try.prog, w0⟩) (f := fun r : Value × List Int => [r.1]) (x := ((.slice none 0 0 : Value), ([] : List Int))) (z := [.slice none 0 0]) (T := 35) (sz := 1) (n := n + 2) (j := n + 1) (m := p.nds.length) (H := hset (n + 1) (.cells (reps p.nds.length [.slice none 0 0]) 35 1) (hset n (.cells [.string p.nm, .int .i64 p.per, p.nv, p.dv] 25 1) H)) rfl (by omega) rfl (by omega) (hset_same _ _ _)
  have hbx : hset (n + 1) (.cells (reps p.nds.length [.slice none 0 0]) 35 1) (hset n (.cells [.string p.nm, .int .i64 p.per, p.nv, p.dv] 25 1) H) n = .cells [.string p.nm, .int .i64 p.per, p.nv, p.dv] 25 1 := by rw [hset_ne (by omega), hset_same]
  have hfr : ∀ i, i < n → hset (n + 1) (.cells (reps p.nds.length [.slice none 0 0]) 35 1) (hset n (.cells [.string p.nm, .int .i64 p.per, p.nv, p.dv] 25 1) H) i = H i := fun i hi => by rw [hset_ne (by omega), hset_ne (by omega)]
  generalize hset (n + 1) (.cells (reps p.nds.length [.slice none 0 0]) 35 1) (hset n (.cells [.string p.nm, .int .i64 p.per, p.nv, p.dv] 25 1) H) = H1 at *
  generalize Value.slice (some ⟨new (n + 1), 0, none⟩) p.nds.length p.nds.length = v at *
  refine AW.while (σ := Nat) (fun k => p.nds.length - k) (fun k => [(1, .pointer (some ⟨new n, 0, none⟩)), (3, v), (4, .int .i64 (k : Int))])
    (fun k n2 H2 => k ≤ p.nds.length ∧ n + 2 ≤ n2 ∧ (∀ i, i < n + 1 → H2 i = H1 i) ∧ MkO H2 w0 n2 (n + 1) v p.nds.length k (feedOf p.nds false)) 0 ?_ ?_ ?_
  · simp (disch := omega) [-hset_if, -Bool.decide_and, hset_ne]
  · refine ⟨by omega, by omega, fun _ _ => rfl, ⟨_, ⟨ho, by simp, by omega, by omega, fun q _ hq => ?_⟩, fun hq => ?_⟩⟩
    · rw [at_nat (by simpa using hq)]; simp
    · rw [at_nat (by simpa using hq)]; simp
  clear ho
  rintro k n2 H2 ⟨g1, g2, g3, g4⟩
  have hp2 : PrR H2 w0 D p := hp.frame (fun i hi => by rw [g3 i (by have := hD i hi; omega), hfr i (hD i hi)])
  have hb2 := hbx
  rw [← g3 n (by omega)] at hb2
  simp (disch := omega) [-hset_if, -Bool.decide_and, hset_ne, hb2, hp2.ns.lenK]
  refine cif_dec (fun c1 => ?_) (fun c1 => ?_)
  · simp (disch := omega) [-hset_if, -Bool.decide_and, hset_ne]
    refine AW.while (σ := Nat) (fun i => p.nds.length - i) (fun i => [(1, .pointer (some ⟨new n, 0, none⟩)), (3, v), (4, .int .i64 (k : Int)), (5, .int .i64 (i : Int))])
      (fun i n3 H3 => i ≤ p.nds.length ∧ n + 2 ≤ n3 ∧ (∀ i, i < n + 1 → H3 i = H1 i) ∧ MkJ H3 w0 n3 (n + 1) v p.nds.length k (feedOf p.nds false) (feedTo p.nds false k i)) 0 ?_ ?_ ?_
    · simp (disch := omega) [-hset_if, -Bool.decide_and, hset_ne]
    · obtain ⟨rs, h1, h2⟩ := g4
      refine ⟨by omega, g2, g3, ⟨rs, n2, fun _ => False, h1, ?_, ?_, fun i hi => hi.elim⟩⟩
      · rw [h2 c1]; rfl
      · rw [h2 c1]; exact OwR.nil (by omega)
    clear g4 hp2 hb2
    rintro i n3 H3 ⟨l1, l2, l3, ⟨rs, m, E, l4, l5, l6, l7⟩⟩
    have hp3 : PrR H3 w0 D p := hp.frame (fun i hi => by rw [l3 i (by have := hD i hi; omega), hfr i (hD i hi)])
    have hb3 := hbx
    rw [← l3 n (by omega)] at hb3
    have hfl := feedTo_len p.nds false k i
    have hft := feedTo_next p.nds false k i
    simp (disch := omega) [-hset_if, -Bool.decide_and, hset_ne, hb3, hp3.ns.lenK]
    refine cif_dec (fun c2 => ?_) (fun c2 => ?_)
    · simp (disch := omega) [-hset_if, -Bool.decide_and, hset_ne, hb3]
      refine takes_ok hp3 (fun i hi => by have := hD i hi; omega) c2 c1 ?_
      simp (disch := omega) [-hset_if, -Bool.decide_and, hset_ne]
      refine cif_var (fun c3 => ?_) (fun c3 => ?_)
      · rw [if_pos c3] at hft
        have hkl : k < rs.length := by rw [l4.len]; exact c1
        simp (disch := omega) [-hset_if, -Bool.decide_and, hset_ne, l4.ow.sl.ix elemS30, l4.ow.sl.load0 shp35, l4.len]
        refine l6.push elemS35 zero3 (by simp) (i : Int) rfl rfl rfl (by first | omega | (dsimp only; omega)) (by first | omega | (dsimp only; omega)) ?_
        intro v4 n4 H4 E4 q1 q2 q3 q4 q5
        have hlt := l4.lt
        rw [← hft] at q5
        have ow4 := l4.ow.frame (m := n4) (H' := H4) (by omega) (fun i hi => q3 i (by omega) (fun e => by have := l7 i e; omega))
        simp (disch := omega) [-hset_if, -Bool.decide_and, hset_ne, ow4.sl.ix elemS30, l4.len]
        refine ow4.store0 shp35 (by omega) (by rw [l4.len]; omega) (v4, feedTo p.nds false k (i + 1)) (by simp [q5.sl.cells]) rfl (by simp [q5.sl.cells, q5.sl.one]) ?_
        intro H5 r1 r2
        rw [Int.toNat_natCast] at r2
        simp (disch := omega) [-hset_if, -Bool.decide_and, hset_ne]
        have hEne : ∀ x, E4 x → x ≠ n + 1 := fun x hx => by rcases q4 x hx with h | h; have := l7 x h; omega; omega
        have hset : ∀ q : Nat, q < p.nds.length → at_ (rs.set k (v4, feedTo p.nds false k (i + 1))) (q : Int) = if k = q then (v4, feedTo p.nds false k (i + 1)) else at_ rs (q : Int) := fun q hq => by
          rw [at_nat (by rw [List.length_set, l4.len]; exact hq), at_nat (xs := rs) (by rw [l4.len]; exact hq), List.getElem_set]
        refine Next.mk (i + 1) (by first | omega | (dsimp only; omega)) (by simp (disch := omega) [-hset_if, -Bool.decide_and, hset_ne]) ⟨by omega, by omega, fun x hx => by rw [r1 x (by omega), q3 x (by omega) (fun e => by have := l7 x e; omega), l3 x hx], ⟨_, m, E4, ⟨r2, by rw [List.length_set, l4.len], ⟨hlt.1, by omega⟩, fun q hq => ?_, fun q h1 h2 => ?_⟩, ?_, ?_, fun x hx => ?_⟩⟩
        · obtain ⟨d1, d2⟩ := l4.done q hq
          rw [hset q (by omega), if_neg (by omega)]
          exact ⟨d1, d2.frame (fun x hx => by rw [r1 x (by omega), q3 x (by omega) (fun e => by have := l7 x e; omega)])⟩
        · rw [hset q h2, if_neg (by omega)]; exact l4.rest q h1 h2
        · rw [hset k c1, if_pos rfl]
        · rw [hset k c1, if_pos rfl]; exact q5.frame (by omega) (fun x hx => r1 x (hEne x hx))
        · rcases q4 x hx with h | h
          · exact l7 x h
          · omega
      · rw [if_neg (by rw [c3]; simp), List.append_nil] at hft
        simp (disch := omega) [-hset_if, -Bool.decide_and, hset_ne]
        exact Next.mk (i + 1) (by first | omega | (dsimp only; omega)) (by simp (disch := omega) [-hset_if, -Bool.decide_and, hset_ne]) ⟨by omega, l2, l3, ⟨rs, m, E, l4, by rw [l5, hft], by rw [hft]; exact l6, l7⟩⟩
    · have hi : i = p.nds.length := by omega
      subst hi
      simp (disch := omega) [-hset_if, -Bool.decide_and, hset_ne]
      refine Next.mk (k + 1) (by first | omega | (dsimp only; omega)) (by simp (disch := omega) [-hset_if, -Bool.decide_and, hset_ne]) ⟨by omega, l2, l3, ⟨rs, ⟨l4.ow, l4.len, by have := l4.lt; omega, fun q hq => ?_, fun q h1 h2 => l4.rest q (by omega) h2⟩, fun h => l4.rest _ (by omega) h⟩⟩
      have hlt := l4.lt
      by_cases e : q = k
      · subst e
        exact ⟨l5, by rw [l5]; exact l6.sl.mono fun i hi => ⟨by have := l7 i hi; omega, l6.lt i hi⟩⟩
      · obtain ⟨d1, d2⟩ := l4.done q (by omega)
        exact ⟨d1, d2.mono fun i hi => ⟨hi.1, by omega⟩⟩
  · simp (disch := omega) [-hset_if, -Bool.decide_and, hset_ne]
    refine Fin_id ?_
    obtain ⟨rs, h1, h2⟩ := g4
    have hk0 : k = p.nds.length := by omega
    subst hk0
    refine hk _ _ _ (by omega) (fun i hi => by rw [g3 i (by omega), hfr i hi]) ⟨rs, ?_, ?_, ?_⟩
    · unfold feedsP
      refine List.ext_getElem (by simp [h1.len]) fun q a b => ?_
      have hq : q < p.nds.length := by simp at b; exact b
      have := (h1.done q hq).1
      rw [at_nat (by rw [h1.len]; exact hq)] at this
      simpa using this
    · exact h1.ow.sl.mono (fun i hi => by rw [hi]; omega)
    · intro r hr
      obtain ⟨q, hq, e⟩ := mem_at hr
      rw [← e]
      exact (h1.done q (by rw [h1.len] at hq; exact hq)).2.mono (fun i hi => by omega)
end Go.Aw.S25
