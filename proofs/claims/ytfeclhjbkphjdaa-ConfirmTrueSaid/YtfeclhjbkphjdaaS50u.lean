/-
  Chapter 50: what a run shows stays small; how it starts.
-/
import Derived.Test.YtfeclhjbkphjdaaS50t
namespace Go.Aw.S50
open Go.RowKit Go.Proofs Go.Aw.Tab
set_option linter.unusedSimpArgs false
set_option linter.unusedVariables false
set_option maxRecDepth 10000
set_option maxHeartbeats 2000000
set_option pp.deepTerms false
set_option pp.deepTerms.threshold 4
set_option pp.maxSteps 1500
variable {w0 : World} {n : Nat} {H : Heap} {K : Value → Nat → Heap → Prop}
attribute [local simp] Ans.cells Ask.cells Opn.cells Wt.cells Qt.cells intC NS.cells
theorem Fit.up {p : NP} {k : Nat} (h : Fit p k) : Fit p (k + 1) :=
  ⟨h.c.up, by have := h.done; omega, fun c => by have := h.mem c; omega, by have := h.asks; omega, by have := h.answers; omega, by have := h.given; omega, h.small, h.opn, by have := h.boot; omega, h.keys⟩
theorem Fit.send {p : NP} {k : Nat} (h : Fit p k) (data : ByteArray) : Fit (sendN p data) (k + 1) := by
  have hc := h.c.send data
  have hu := h.up
  unfold sendN
  have hcase : ((sendP p.c data).1.2 = 0 → data.size ≤ 400 ∧ (sendP p.c data).1.1 = (newW p.c data).ask ∧ (sendP p.c data).2 = { p.c with sent := p.c.sent + 1, opn := p.c.opn ++ [newW p.c data] }) ∧ ((sendP p.c data).1.2 ≠ 0 → (sendP p.c data).2 = p.c) := by
    unfold sendP
    split
    · simp
    split
    · simp
    · refine ⟨fun _ => ⟨by omega, rfl, rfl⟩, fun e => absurd rfl e⟩
  split
  · rename_i e
    obtain ⟨e1, e2, e3⟩ := hcase.1 e
    refine ⟨hc, hu.done, hu.mem, by have := h.asks; simp; omega, hu.answers, hu.given, fun a ha => ?_, fun w hw => ?_, hu.boot, fun q hq => ?_⟩
    · rcases List.mem_append.1 ha with ha | ha
      · exact h.small a ha
      · simp only [List.mem_cons, List.not_mem_nil, or_false] at ha
        rw [ha, e2]; exact e1
    · dsimp only at hw
      rw [e3] at hw
      rcases List.mem_append.1 hw with hw | hw
      · exact h.opn w hw
      · simp only [List.mem_cons, List.not_mem_nil, or_false] at hw
        rw [hw]; exact e1
    · dsimp only at hq ⊢
      rw [e3]
      dsimp only
      rcases List.mem_append.1 hq with hq | hq
      · have := h.keys q hq; omega
      · simp only [List.mem_cons, List.not_mem_nil, or_false] at hq
        rw [hq, e2]; exact Int.le_refl _
  · rename_i e
    have e3 := hcase.2 e
    refine ⟨hc, hu.done, hu.mem, hu.asks, hu.answers, hu.given, h.small, fun w hw => h.opn w (by rw [← e3]; exact hw), hu.boot, fun q hq => ?_⟩
    show q.1 ≤ (sendP p.c data).2.sent
    rw [e3]; exact h.keys q hq
theorem tk_mem {c : Cl} {w' : Wt} (h : w' ∈ tkW c c.opn) : ∃ w ∈ c.opn, w'.data = w.data ∧ w'.inv = w.inv ∧ w'.boot = w.boot ∧ w'.known = w.known := by
  simp only [tkW, List.mem_filterMap] at h
  obtain ⟨w, hw, e⟩ := h
  refine ⟨w, hw, ?_⟩
  unfold tk1 at e
  split at e
  · simp only [Option.some.injEq] at e; subst e; exact ⟨rfl, rfl, rfl, rfl⟩
  · split at e
    · cases e
    · simp only [Option.some.injEq] at e; subst e; exact ⟨rfl, rfl, rfl, rfl⟩
theorem tkA_mem {c : Cl} {a : Ask} (h : a ∈ tkA c c.opn) : ∃ w ∈ c.opn, a = w.ask := by
  simp only [tkA, List.mem_filterMap] at h
  obtain ⟨w, hw, e⟩ := h
  refine ⟨w, hw, ?_⟩
  unfold tk1 at e
  split at e
  · cases e
  · split at e
    · cases e
    · simp only [Option.some.injEq] at e; exact e.symm
theorem Fit.tick {p : NP} {k : Nat} (h : Fit p k) : Fit (tickN p) (k + 1) := by
  have hu := h.up
  have hl : (tickP p.c).1.length ≤ p.c.opn.length := by unfold tickP tkA; exact List.length_filterMap_le _ _
  refine ⟨h.c.tick, hu.done, hu.mem, by have := h.asks; have := h.c.most; simp [tickN]; omega, hu.answers, hu.given, fun a ha => ?_, fun w hw => ?_, hu.boot, h.keys⟩
  · rcases List.mem_append.1 ha with ha | ha
    · exact h.small a ha
    · obtain ⟨w, hw, e⟩ := tkA_mem ha
      rw [e]; exact h.opn w hw
  · obtain ⟨w1, hw1, e, _⟩ := tk_mem hw
    rw [e]; exact h.opn w1 hw1
theorem hand_mem {c : Cl} {a : Ans} : (∀ w' ∈ (handC c a).2.opn, ∃ w ∈ c.opn, w'.data = w.data ∧ w'.inv = w.inv) ∧ (∀ x ∈ (handC c a).1, ∃ w ∈ c.opn, x.data = w.data ∧ x.inv = w.inv) ∧ (handC c a).1.length ≤ 1 ∧ (handC c a).2.sent = c.sent ∧ (handC c a).2.pat = c.pat ∧ (handC c a).2.ret = c.ret := by
  unfold handC
  dsimp only
  split
  · exact ⟨fun w hw => ⟨w, hw, rfl, rfl⟩, by simp, by simp, rfl, rfl, rfl⟩
  rename_i hi
  obtain ⟨j, hj⟩ : ∃ j : Nat, fidx (fun w : Wt => w.inv == a.inv) c.opn = (j : Int) := ⟨(fidx (fun w : Wt => w.inv == a.inv) c.opn).toNat, by omega⟩
  obtain ⟨hjl, -, -⟩ := fidx_spec hj
  rw [hj, Int.toNat_natCast]
  have her : ∀ w ∈ c.opn.eraseIdx j, ∃ w' ∈ c.opn, w.data = w'.data ∧ w.inv = w'.inv := fun w hw => ⟨w, List.mem_of_mem_eraseIdx hw, rfl, rfl⟩
  split
  · split
    · exact ⟨her, by simp, by simp, rfl, rfl, rfl⟩
    · exact ⟨fun w hw => ⟨w, hw, rfl, rfl⟩, by simp, by simp, rfl, rfl, rfl⟩
  split
  · exact ⟨fun w hw => ⟨w, hw, rfl, rfl⟩, by simp, by simp, rfl, rfl, rfl⟩
  split
  · exact ⟨her, by simp, by simp, rfl, rfl, rfl⟩
  · refine ⟨fun w hw => ?_, fun x hx => ?_, by simp, rfl, rfl, rfl⟩
    · rcases List.mem_or_eq_of_mem_set hw with hw | hw
      · exact ⟨w, hw, rfl, rfl⟩
      · exact ⟨_, at_mem hjl, by rw [hw], by rw [hw]⟩
    · simp only [List.mem_cons, List.not_mem_nil, or_false] at hx
      exact ⟨_, at_mem hjl, by rw [hx]; rfl, by rw [hx]; rfl⟩
theorem Fit.hand {p : NP} {k : Nat} (h : Fit p k) (a : Ans) : Fit (handN p a) (k + 1) := by
  have hu := h.up
  obtain ⟨m1, m2, m3, m4, m5, m6⟩ := hand_mem (c := p.c) (a := a)
  refine ⟨h.c.hand a, hu.done, hu.mem, by have := h.asks; simp [handN]; omega, hu.answers, hu.given, fun x hx => ?_, fun w hw => ?_, hu.boot, fun q hq => ?_⟩
  · rcases List.mem_append.1 hx with hx | hx
    · exact h.small x hx
    · obtain ⟨w, hw, e, _⟩ := m2 x hx
      rw [e]; exact h.opn w hw
  · obtain ⟨w1, hw1, e, _⟩ := m1 w hw
    rw [e]; exact h.opn w1 hw1
  · show q.1 ≤ (handC p.c a).2.sent
    rw [m4]; exact h.keys q hq
theorem Fit.serve {p : NP} {k : Nat} (h : Fit p k) (a : Ask) : Fit (serveP p a) (k + 1) := by
  have hu := h.up
  have hd : (hnP p a).2.done = p.sv.done := handle_same
  unfold serveP
  split
  · exact ⟨hu.c, by dsimp only; rw [hd]; exact hu.done, hu.mem, hu.asks, hu.answers, hu.given, h.small, h.opn, hu.boot, h.keys⟩
  split
  · refine ⟨hu.c, ?_, fun c => ?_, hu.asks, by have := h.answers; simp [gotP]; omega, by have := h.given; simp [gotP]; omega, h.small, h.opn, hu.boot, h.keys⟩
    · have := h.done
      simp only [gotP, fnP, finP]
      split
      · rw [hd]; omega
      split
      · rw [hd]; omega
      · dsimp only; rw [hd]; omega
    · have := h.mem c
      simp only [gotP, fnP, finP]
      split
      · dsimp only; omega
      split
      · dsimp only; omega
      · dsimp only
        split
        · have := memP_len (limit := (hnP p a).2.limit) (i := (hnP p a).2.nowI) (a := finA (hnP p a).2 0 (a.data ++ a.data)) (m := p.m c)
          omega
        · omega
  · exact ⟨hu.c, by simp only [gotP]; rw [hd]; exact hu.done, hu.mem, hu.asks, by have := h.answers; simp [gotP]; omega, by have := h.given; simp [gotP]; omega, h.small, h.opn, hu.boot, h.keys⟩
theorem cut_len {α : Type} (l : List α) (i : Nat) : (cut l i).length ≤ l.length := by unfold cut; simp; omega
theorem cut_mem {α : Type} {l : List α} {i : Nat} {x : α} (h : x ∈ cut l i) : x ∈ l := by
  unfold cut at h
  rcases List.mem_append.1 h with h | h
  · exact List.mem_of_mem_take h
  · exact List.mem_of_mem_drop h
theorem Fit.step {p : NP} {k : Nat} (h : Fit p k) (kind which : Int) (data : ByteArray) : Fit (stepP p kind which data) (k + 1) := by
  unfold stepP
  split
  · exact h.send data
  split
  · exact h.tick
  split
  · unfold askN
    split
    · exact h.up
    dsimp only
    have h1 : Fit (if which.tmod 2 = 0 then { p with asks := cut p.asks (ixW which p.asks.length) } else p) k := by
      split
      · exact ⟨h.c, h.done, h.mem, by have := h.asks; have := cut_len p.asks (ixW which p.asks.length); dsimp only; omega, h.answers, h.given, fun a ha => h.small a (cut_mem ha), h.opn, h.boot, h.keys⟩
      · exact h
    split
    · exact h1.serve _
    · exact h1.up
  split
  · unfold ansN
    split
    · exact h.up
    dsimp only
    have h1 : Fit (if which.tmod 2 = 0 then { p with answers := cut p.answers (ixW which p.answers.length) } else p) k := by
      split
      · exact ⟨h.c, h.done, h.mem, h.asks, by have := h.answers; have := cut_len p.answers (ixW which p.answers.length); dsimp only; omega, h.given, h.small, h.opn, h.boot, h.keys⟩
      · exact h
    split
    · exact h1.hand _
    · exact h1.up
  split
  · have hu := h.up
    exact ⟨hu.c, ⟨Int.le_refl _, by simp [rebootN]; omega⟩, fun c => by simp [rebootN], hu.asks, hu.answers, hu.given, h.small, h.opn, by have := h.boot; simp only [rebootN]; omega, h.keys⟩
  · exact h.up
/-- The start of a run. -/
def startP (p r : Int) : NP := ⟨⟨p, r, 0, 0, [], []⟩, ⟨1, 2, 0, 0, 0⟩, fun _ => ([], 0), 1, [], [], [], []⟩
theorem Fit.start {p r : Int} (h : ncOk p r) : Fit (startP p r) 0 := ⟨COk.new h, by simp [startP], by simp [startP], by simp [startP], by simp [startP], by simp [startP], by simp [startP], by simp [startP], by simp [startP], by simp [startP]⟩
theorem start_ok {p r : Int} (h : ncOk p r) (hk : ∀ n' H' N, n ≤ n' → (∀ i, i < n → H' i = H i) → NetX H' w0 n n' N (startP p r) → K (.pointer (some ⟨new N, 0, none⟩)) n' H') : ACall ⟨Try.prog, w0⟩ 32 [.int .i64 p, .int .i64 r] K n H := by
  refine ACall.run Try.func32 rfl Try.ntmps32 Try.results32 (by simp) fun J0 => ?_
  simp (disch := omega) [-hset_if, -Bool.decide_and, hset_ne]
  refine NewClient_ok (fun h' => absurd h h') (fun _ n1 H1 C a1 a2 a3 hC => ?_)
  simp (disch := omega) [-hset_if, -Bool.decide_and, hset_ne]
  refine NewServer_ok (fun h => absurd (show nsOk 1 2 by decide) h) (fun _ n2 H2 S M b1 b2 b3 b4 hS => ?_)
  simp (disch := omega) [-hset_if, -Bool.decide_and, hset_ne]
  refine Fin_id ?_
  have hlC : C < n1 := hC.s.2.2.1
  have hso : ∀ i, SvO S M [] i → (i = S ∨ i = M) ∧ i < n2 := fun i hi => by
    have := hS.lt' hi
    rcases hi with rfl | rfl | ⟨e, he, _⟩
    · exact ⟨.inl rfl, this⟩
    · exact ⟨.inr rfl, this⟩
    · simp at he
  refine hk _ _ (n2 + 1) (by omega) (fun i hi => ?_) ⟨fun i => if i < n then 7 else if i = n2 + 1 then 0 else if i = C then 1 else if i = S ∨ i = M then 2 else 6, ⟨C, S, M, n2, (· = C), fun _ => False, fun _ => False, [], .slice none 0 0, .slice none 0 0, ⟨p, r, 0, 0, [], []⟩, ⟨1, 2, 0, 0, 0⟩, [], 1, [], .slice none 0 0, fun _ => False, [], .slice none 0 0, fun _ => False, [], .slice none 0 0, fun _ => False, []⟩,
    ⟨?_, ?_, ?_, OwR.nil (by omega), OwR.nil (by omega), OwR.nil (by omega), ?_, fun j i hj => ?_, fun i hi => by simp [hi], by omega⟩, rfl⟩
  · simp (disch := omega) only [hset_ne]
    rw [b2 i (by omega), a2 i hi]
  · simp (disch := omega) [-hset_if, -Bool.decide_and, hset_ne]
  · exact hC.frame (by omega) (fun i hi => by subst hi; simp (disch := omega) only [hset_ne]; exact b2 _ hlC)
  · exact hS.frameD (by omega) (fun i hi => by have := (hso i hi).2; simp (disch := omega) only [hset_ne])
  · exact MapG.new0 (c := 0) (by simp (disch := omega) [-hset_if, -Bool.decide_and, hset_ne])
  · match j, hj with
    | 0, hj =>
      simp only [NS.own] at hj; subst hj
      simp; omega
    | 1, hj =>
      simp only [NS.own] at hj; subst hj
      rw [if_neg (by omega), if_neg (by omega), if_pos rfl]; omega
    | 2, hj =>
      have := hso i hj
      have hin : n1 ≤ i := by omega
      rw [if_neg (by omega), if_neg (by omega), if_neg (by omega), if_pos this.1]; omega
    | 3, hj => exact hj.elim
    | 4, hj => exact hj.elim
    | 5, hj => exact hj.elim
    | 6, hj =>
      simp only [NS.own] at hj; subst hj
      have h1 := (hso S (.inl rfl)).2
      have h2 := (hso M (.inr (.inl rfl))).2
      rw [if_neg (by omega), if_neg (by omega), if_neg (by omega), if_neg (by omega)]; omega
    | j + 7, hj => exact hj.elim
end Go.Aw.S50
