/-
  Chapter 50: the server's memory.
-/
import Derived.Test.YtfeclhjbkphjdaaS50a
import Derived.Test.YtfeclhjbkphjdaaAw20
namespace Go.Aw.S50
open Go.RowKit Go.Proofs Go.Aw.Tab
set_option linter.unusedSimpArgs false
set_option linter.unusedVariables false
set_option maxRecDepth 10000
set_option maxHeartbeats 1000000
set_option pp.deepTerms false
set_option pp.deepTerms.threshold 4
set_option pp.maxSteps 1500
attribute [local simp] Ans.cells Ask.cells Opn.cells
variable {w0 : World} {n : Nat} {H : Heap} {K : Value → Nat → Heap → Prop}
def intK (x : Int) : Value := .int .i64 x
/-- What a server remembers of a client, and where: the object q, its map a. -/
structure Ent where
  client : Int
  ans : List (Int × Ans)
  floor : Int
  q : Nat
  a : Nat
structure Srv where
  boot : Int
  limit : Int
  nowC : Int
  nowI : Int
  done : Int
def ansV (p : Int × Ans) : Int × Value := (p.1, .agg p.2.cells.toArray)
def Ent.kv (e : Ent) : Int × Value := (e.client, .pointer (some ⟨new e.q, 0, none⟩))
/-- The server's objects: S itself, M the map of its clients. -/
structure SvR (H : Heap) (n S M : Nat) (sv : Srv) (ms : List Ent) : Prop where
  self : H S = .cells [.int .i64 sv.boot, .int .i64 sv.limit, .map (some (new M)), .int .i64 sv.nowC, .int .i64 sv.nowI, .int .i64 sv.done] 86 1
  map : MapG intK H M (ms.map Ent.kv)
  q : ∀ e ∈ ms, H e.q = .cells [.map (some (new e.a)), .int .i64 e.floor] 94 1
  a : ∀ e ∈ ms, MapG intK H e.a (e.ans.map ansV)
  apart : (S :: M :: ms.flatMap fun e => [e.q, e.a]).Nodup
  lt : ∀ i ∈ S :: M :: ms.flatMap (fun e => [e.q, e.a]), i < n
theorem keyI (a b : Int) : keyIs (intK a) (intK b) = decide (a = b) := by
  unfold intK
  rw [keyIs_int, Bool.eq_iff_iff]
  simp
theorem keysI {x : Int} (es : List MapEntry) (h : ∀ e ∈ es, ∃ b, e.key = intK b) : KeysOk Try.prog 3 (intK x) es := KeysOk.int prim3 h
theorem kv_find? {ms : List Ent} {c : Int} : (ms.map Ent.kv).find? (fun p => decide (c = p.1)) = (ms.find? fun e => decide (c = e.client)).map Ent.kv := by
  rw [List.find?_map]; rfl
theorem SvR.objs {S M : Nat} {sv : Srv} {ms : List Ent} (h : SvR H n S M sv ms) : S ≠ M ∧ S < n ∧ M < n ∧ ∀ e ∈ ms, e.q ≠ M ∧ e.a ≠ M ∧ e.q ≠ S ∧ e.a ≠ S ∧ e.q < n ∧ e.a < n := by
  have h1 := h.apart
  rw [List.nodup_cons, List.nodup_cons] at h1
  obtain ⟨g1, g2, _⟩ := h1
  have g3 : ∀ e ∈ ms, e.q ∈ ms.flatMap (fun e => [e.q, e.a]) ∧ e.a ∈ ms.flatMap (fun e => [e.q, e.a]) := fun e he => ⟨List.mem_flatMap.2 ⟨e, he, by simp⟩, List.mem_flatMap.2 ⟨e, he, by simp⟩⟩
  refine ⟨fun e => g1 (by rw [e]; simp), h.lt S (by simp), h.lt M (by simp), fun e he => ?_⟩
  obtain ⟨a1, a2⟩ := g3 e he
  exact ⟨fun x => g2 (x ▸ a1), fun x => g2 (x ▸ a2), fun x => g1 (List.mem_cons_of_mem _ (x ▸ a1)), fun x => g1 (List.mem_cons_of_mem _ (x ▸ a2)), h.lt _ (by simp only [List.mem_cons]; exact .inr (.inr a1)), h.lt _ (by simp only [List.mem_cons]; exact .inr (.inr a2))⟩
theorem of_ok {S M : Nat} {sv : Srv} {ms : List Ent} {c : Int} (h : SvR H n S M sv ms)
    (h1 : ∀ e ∈ ms, e.client = c → (∀ e', ms.find? (fun e => decide (c = e.client)) = some e' → e' = e) → K (.pointer (some ⟨new e.q, 0, none⟩)) n H)
    (h2 : (∀ e ∈ ms, e.client ≠ c) → ∀ H', (∀ i, i < n → i ≠ M → H' i = H i) → SvR H' (n + 2) S M sv (ms ++ [⟨c, [], 0, n + 1, n⟩]) → K (.pointer (some ⟨new (n + 1), 0, none⟩)) (n + 2) H') : ACall ⟨Try.prog, w0⟩ 36 [.pointer (some ⟨new S, 0, none⟩), .int .i64 c] K n H := by
  have hself := h.self
  refine ACall.run Try.func36 rfl Try.ntmps36 Try.results36 (by simp) fun J0 => ?_
  simp (disch := omega) [-hset_if, -Bool.decide_and, hset_ne, hself]
  refine (MapG.look (f := intK) (x := c) (ok := false) h.map keyI mapT82 zeroV89 keysI).mpr ?_
  rw [kv_find?]
  cases hf : ms.find? fun e => decide (c = e.client) with
  | some e =>
    have he := List.mem_of_find?_eq_some hf
    have hc : e.client = c := by have := List.find?_some hf; simpa using (of_decide_eq_true this).symm
    simp only [Option.map_some, lkG, Ent.kv, Bool.false_eq_true, if_false]
    simp (disch := omega) [-hset_if, -Bool.decide_and, hset_ne]
    refine Fin_id ?_
    exact h1 e he hc (fun e' h' => by rw [hf] at h'; exact (Option.some.inj h').symm)
  | none =>
    have hno : ∀ e ∈ ms, e.client ≠ c := fun e he hc => by
      have := List.find?_eq_none.1 hf e he
      simp [hc] at this
    simp only [Option.map_none, lkG, Bool.false_eq_true, if_false]
    have hS : S < n := h.lt S (by simp)
    have hM : M < n := h.lt M (by simp)
    simp (disch := omega) [-hset_if, -Bool.decide_and, hset_ne, hself]
    obtain ⟨o1, o2, o3, o4⟩ := h.objs
    refine MapG.add (f := intK) (x := c) (h.map.frame (by rw [hset_ne (by omega), hset_ne (by omega)])) keyI (fun p hp => ?_) mapT82 keysI ?_
    · obtain ⟨e, he, rfl⟩ := List.mem_map.1 hp
      exact hno e he
    intro o hm
    simp (disch := omega) [-hset_if, -Bool.decide_and, hset_ne]
    refine Fin_id ?_
    have hfr : ∀ i, i < n → i ≠ M → hset M o (hset (n + 1) (.cells [.map (some (new n)), .int .i64 0] 94 1) (hset n (.map [] 0) H)) i = H i := fun i hi hne => by rw [hset_ne hne, hset_ne (by omega), hset_ne (by omega)]
    refine h2 hno _ hfr ⟨?_, ?_, fun e he => ?_, fun e he => ?_, ?_, fun i hi => ?_⟩
    · rw [hfr S o2 o1]; exact hself
    · simpa [Ent.kv] using hm
    · rcases List.mem_append.1 he with he | he
      · obtain ⟨p1, p2, p3, p4, p5, p6⟩ := o4 e he
        rw [hfr _ p5 p1]; exact h.q e he
      · simp only [List.mem_cons, List.not_mem_nil, or_false] at he
        subst he
        dsimp only
        rw [hset_ne (by omega), hset_same]
    · rcases List.mem_append.1 he with he | he
      · obtain ⟨p1, p2, p3, p4, p5, p6⟩ := o4 e he
        exact (h.a e he).frame (hfr _ p6 p2)
      · simp only [List.mem_cons, List.not_mem_nil, or_false] at he
        subst he
        exact MapG.new0 (c := 0) (by dsimp only; rw [hset_ne (by omega), hset_ne (by omega), hset_same])
    · rw [List.flatMap_append, ← List.cons_append, ← List.cons_append, List.nodup_append]
      refine ⟨h.apart, by simp, fun a ha b hb e => ?_⟩
      have := h.lt a ha
      simp at hb
      omega
    · rw [List.flatMap_append, ← List.cons_append, ← List.cons_append, List.mem_append] at hi
      rcases hi with hi | hi
      · have := h.lt i hi; omega
      · simp at hi; omega
end Go.Aw.S50
