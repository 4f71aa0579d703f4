/-
  Chapter 15: the tests of Check.
-/
import Derived.Test.YtmgadjflgiokeaaS15ca
namespace Go.Aw.S15
open Go.RowKit Go.Proofs Go.Aw.Tab
set_option linter.unusedSimpArgs false
set_option linter.unusedVariables false
set_option maxRecDepth 10000
set_option maxHeartbeats 1000000
set_option pp.deepTerms false
set_option pp.deepTerms.threshold 4
set_option pp.maxSteps 1500
attribute [local simp] Gr.cells Pt.cells strC
variable {w0 : World} {n : Nat} {H : Heap} {K : Value → Nat → Heap → Prop} {D E : Nat → Prop} {gs : List Gr} {pts : List Pt}
theorem some_ok {gv : Value} {g : FuncId} {caps : Array Value} {p : Gr → Bool} (hs : GrsR H w0 D gv gs) (hD : ∀ i, D i → i < n)
    (hg : ∀ r ∈ gs, ∀ n' H' (K' : Value → Nat → Heap → Prop), n ≤ n' → (∀ i, i < n → H' i = H i) → (∀ n'' H'', n' ≤ n'' → (∀ i, i < n' → H'' i = H' i) → K' (.bool (p r)) n'' H'') → ACall ⟨Try.prog, w0⟩ g (.agg #[.string r.nm, r.pv, .int .i64 r.dd] :: caps.toList) K' n' H')
    (hent : entB Try.prog g = true) (hk : ∀ n' H', n ≤ n' → (∀ i, i < n → H' i = H i) → K (.bool (gs.any p)) n' H') : ACall ⟨Try.prog, w0⟩ 56 [gv, .func (.func g) #[] caps] K n H := by
  have hlb := hs.lb
  refine ACall.run Try.func56 rfl Try.ntmps56 Try.results56 (by simp) fun J0 => ?_
  simp (disch := omega) [-hset_if, -Bool.decide_and, hset_ne]
  refine containsGr_ok hs.sl hD hg (by omega) hent ?_
  intro n1 H1 e1 e2
  simp (disch := omega) [-hset_if, -Bool.decide_and, hset_ne]
  refine Fin_id ?_
  exact hk _ _ e1 e2
theorem c59_ok {r : Gr} (hp : SlR ⟨Try.prog, w0⟩ H D 1 strC r.pv r.ps) (hD : ∀ i, D i → i < n) (hk : ∀ n' H', n ≤ n' → (∀ i, i < n → H' i = H i) → K (.bool (decide ((16 : Int) < r.ps.length))) n' H') : ACall ⟨Try.prog, w0⟩ 59 [.agg #[.string r.nm, r.pv, .int .i64 r.dd]] K n H := by
  have ho := hp.one
  refine ACall.run Try.func59 rfl Try.ntmps59 Try.results59 (by simp) fun J0 => ?_
  simp (disch := omega) [-hset_if, -Bool.decide_and, hset_ne, ho]
  try rw [show (Value.agg #[.string r.nm, r.pv, .int .i64 r.dd]).cells.toList = [.string r.nm, r.pv, .int .i64 r.dd] from rfl]
  have hbx : ∀ o : Unit, hset n (.cells [.string r.nm, r.pv, .int .i64 r.dd] 24 1) H n = .cells [.string r.nm, r.pv, .int .i64 r.dd] 24 1 := fun _ => hset_same _ _ _
  have hfr : ∀ i, i < n → hset n (.cells [.string r.nm, r.pv, .int .i64 r.dd] 24 1) H i = H i := fun i hi => hset_ne (by omega) _ _
  generalize hset n (.cells [.string r.nm, r.pv, .int .i64 r.dd] 24 1) H = H1 at *
  replace hbx := hbx ()
  have hp1 := hp.frame (fun i hi => hfr i (hD i hi))
  simp (disch := omega) [-hset_if, -Bool.decide_and, hset_ne, hbx, hp1.lenK]
  refine Fin_id ?_
  exact hk _ _ (by omega) hfr
theorem c63_ok {r : Gr} (hp : SlR ⟨Try.prog, w0⟩ H D 1 strC r.pv r.ps) (hD : ∀ i, D i → i < n) (hk : ∀ n' H', n ≤ n' → (∀ i, i < n → H' i = H i) → K (.bool (decide ((r.ps.length : Int) < 2))) n' H') : ACall ⟨Try.prog, w0⟩ 63 [.agg #[.string r.nm, r.pv, .int .i64 r.dd]] K n H := by
  have ho := hp.one
  refine ACall.run Try.func63 rfl Try.ntmps63 Try.results63 (by simp) fun J0 => ?_
  simp (disch := omega) [-hset_if, -Bool.decide_and, hset_ne, ho]
  try rw [show (Value.agg #[.string r.nm, r.pv, .int .i64 r.dd]).cells.toList = [.string r.nm, r.pv, .int .i64 r.dd] from rfl]
  have hbx : ∀ o : Unit, hset n (.cells [.string r.nm, r.pv, .int .i64 r.dd] 24 1) H n = .cells [.string r.nm, r.pv, .int .i64 r.dd] 24 1 := fun _ => hset_same _ _ _
  have hfr : ∀ i, i < n → hset n (.cells [.string r.nm, r.pv, .int .i64 r.dd] 24 1) H i = H i := fun i hi => hset_ne (by omega) _ _
  generalize hset n (.cells [.string r.nm, r.pv, .int .i64 r.dd] 24 1) H = H1 at *
  replace hbx := hbx ()
  have hp1 := hp.frame (fun i hi => hfr i (hD i hi))
  simp (disch := omega) [-hset_if, -Bool.decide_and, hset_ne, hbx, hp1.lenK]
  refine Fin_id ?_
  exact hk _ _ (by omega) hfr
theorem c60_ok {r : Gr} (ho : r.pv.oneCell' = true) (hk : ∀ n' H', n ≤ n' → (∀ i, i < n → H' i = H i) → K (.bool (!(nameB r.nm))) n' H') : ACall ⟨Try.prog, w0⟩ 60 [.agg #[.string r.nm, r.pv, .int .i64 r.dd]] K n H := by
  refine ACall.run Try.func60 rfl Try.ntmps60 Try.results60 (by simp) fun J0 => ?_
  simp (disch := omega) [-hset_if, -Bool.decide_and, hset_ne, ho]
  try rw [show (Value.agg #[.string r.nm, r.pv, .int .i64 r.dd]).cells.toList = [.string r.nm, r.pv, .int .i64 r.dd] from rfl]
  have hbx : ∀ o : Unit, hset n (.cells [.string r.nm, r.pv, .int .i64 r.dd] 24 1) H n = .cells [.string r.nm, r.pv, .int .i64 r.dd] 24 1 := fun _ => hset_same _ _ _
  have hfr : ∀ i, i < n → hset n (.cells [.string r.nm, r.pv, .int .i64 r.dd] 24 1) H i = H i := fun i hi => hset_ne (by omega) _ _
  generalize hset n (.cells [.string r.nm, r.pv, .int .i64 r.dd] 24 1) H = H1 at *
  replace hbx := hbx ()
  simp (disch := omega) [-hset_if, -Bool.decide_and, hset_ne, hbx]
  refine Name_ok ?_
  intro n1 H2 e1 e2
  simp (disch := omega) [-hset_if, -Bool.decide_and, hset_ne]
  refine Fin_id ?_
  exact hk _ _ (by omega) (fun i hi => by rw [e2 i (by omega), hfr i hi])
theorem c61_ok {s : ByteArray} (hk : ∀ n' H', n ≤ n' → (∀ i, i < n → H' i = H i) → K (.bool (!(nameB s))) n' H') : ACall ⟨Try.prog, w0⟩ 61 [.string s] K n H := by
  refine ACall.run Try.func61 rfl Try.ntmps61 Try.results61 (by simp) fun J0 => ?_
  simp (disch := omega) [-hset_if, -Bool.decide_and, hset_ne]
  refine Name_ok ?_
  intro n1 H2 e1 e2
  simp (disch := omega) [-hset_if, -Bool.decide_and, hset_ne]
  refine Fin_id ?_
  exact hk _ _ e1 e2
def deadB (d : Int) : Bool := decide (0 ≤ d) && decide (d ≤ 3600)
theorem c62_ok {r : Gr} (ho : r.pv.oneCell' = true) (hk : ∀ n' H', n ≤ n' → (∀ i, i < n → H' i = H i) → K (.bool (!(deadB r.dd))) n' H') : ACall ⟨Try.prog, w0⟩ 62 [.agg #[.string r.nm, r.pv, .int .i64 r.dd]] K n H := by
  refine ACall.run Try.func62 rfl Try.ntmps62 Try.results62 (by simp) fun J0 => ?_
  simp (disch := omega) [-hset_if, -Bool.decide_and, hset_ne, ho]
  try rw [show (Value.agg #[.string r.nm, r.pv, .int .i64 r.dd]).cells.toList = [.string r.nm, r.pv, .int .i64 r.dd] from rfl]
  have hbx : ∀ o : Unit, hset n (.cells [.string r.nm, r.pv, .int .i64 r.dd] 24 1) H n = .cells [.string r.nm, r.pv, .int .i64 r.dd] 24 1 := fun _ => hset_same _ _ _
  have hfr : ∀ i, i < n → hset n (.cells [.string r.nm, r.pv, .int .i64 r.dd] 24 1) H i = H i := fun i hi => hset_ne (by omega) _ _
  generalize hset n (.cells [.string r.nm, r.pv, .int .i64 r.dd] 24 1) H = H1 at *
  replace hbx := hbx ()
  simp (disch := omega) [-hset_if, -Bool.decide_and, hset_ne, hbx]
  refine dead_ok r.dd ?_
  simp (disch := omega) [-hset_if, -Bool.decide_and, hset_ne]
  refine Fin_id ?_
  have h := hk (n + 1) H1 (by omega) hfr
  unfold deadB at h
  rw [Bool.not_and] at h
  exact h
/-- What a test of names answers. -/
def NmOk (w0 : World) (n : Nat) (H : Heap) (g : FuncId) (caps : Array Value) (ok : ByteArray → Prop) (p : ByteArray → Bool) : Prop :=
  ∀ s, ok s → ∀ n' H' (K' : Value → Nat → Heap → Prop), n ≤ n' → (∀ i, i < n → H' i = H i) → (∀ n'' H'', n' ≤ n'' → (∀ i, i < n' → H'' i = H' i) → K' (.bool (p s)) n'' H'') → ACall ⟨Try.prog, w0⟩ g (.string s :: caps.toList) K' n' H'
theorem c57_ok {r : Gr} {V : Nat} {g : FuncId} {caps : Array Value} {ok : ByteArray → Prop} {p : ByteArray → Bool} (hV : H V = .cells [.func (.func g) #[] caps] 87 1) (hVn : V < n) (hp : SlR ⟨Try.prog, w0⟩ H D 1 strC r.pv r.ps) (hD : ∀ i, D i → i < n) (hb : r.ps.length ≤ 9223372036854775806)
    (hg : NmOk w0 n H g caps ok p) (hok : ∀ s ∈ r.ps, ok s) (hent : entB Try.prog g = true)
    (hk : ∀ n' H', n ≤ n' → (∀ i, i < n → H' i = H i) → K (.bool (r.ps.any p)) n' H') : ACall ⟨Try.prog, w0⟩ 57 [.agg #[.string r.nm, r.pv, .int .i64 r.dd], .pointer (some ⟨new V, 0, none⟩)] K n H := by
  have ho := hp.one
  refine ACall.run Try.func57 rfl Try.ntmps57 Try.results57 (by simp) fun J0 => ?_
  simp (disch := omega) [-hset_if, -Bool.decide_and, hset_ne, ho]
  try rw [show (Value.agg #[.string r.nm, r.pv, .int .i64 r.dd]).cells.toList = [.string r.nm, r.pv, .int .i64 r.dd] from rfl]
  have hbx : ∀ o : Unit, hset n (.cells [.string r.nm, r.pv, .int .i64 r.dd] 24 1) H n = .cells [.string r.nm, r.pv, .int .i64 r.dd] 24 1 := fun _ => hset_same _ _ _
  have hfr : ∀ i, i < n → hset n (.cells [.string r.nm, r.pv, .int .i64 r.dd] 24 1) H i = H i := fun i hi => hset_ne (by omega) _ _
  generalize hset n (.cells [.string r.nm, r.pv, .int .i64 r.dd] 24 1) H = H1 at *
  replace hbx := hbx ()
  have hp1 := hp.frame (fun i hi => hfr i (hD i hi))
  have hV1 : H1 V = .cells [.func (.func g) #[] caps] 87 1 := by rw [hfr V hVn]; exact hV
  simp (disch := omega) [-hset_if, -Bool.decide_and, hset_ne, hbx, hV1, hV]
  refine containsStr_ok hp1 (fun i hi => by have := hD i hi; omega) (fun s hs n' H' K' a1 a2 a3 => hg s (hok s hs) n' H' K' (by omega) (fun i hi => by rw [a2 i (by omega), hfr i hi]) a3) (by omega) hent ?_
  intro n1 H2 e1 e2
  simp (disch := omega) [-hset_if, -Bool.decide_and, hset_ne]
  refine Fin_id ?_
  exact hk _ _ (by omega) (fun i hi => by rw [e2 i (by omega), hfr i hi])
theorem members_ok {gv : Value} {V : Nat} {g : FuncId} {caps : Array Value} {ok : ByteArray → Prop} {p : ByteArray → Bool} (hV : H V = .cells [gv] 72 1) (hVn : V < n) (hs : GrsR H w0 D gv gs) (hD : ∀ i, D i → i < n)
    (hg : NmOk w0 n H g caps ok p) (hok : ∀ r ∈ gs, ∀ s ∈ r.ps, ok s) (hent : entB Try.prog g = true) (hone : (Value.func (.func g) #[] caps).oneCell' = true)
    (hk : ∀ n' H', n ≤ n' → (∀ i, i < n → H' i = H i) → K (.bool (gs.any fun r => r.ps.any p)) n' H') : ACall ⟨Try.prog, w0⟩ 55 [.func (.func g) #[] caps, .pointer (some ⟨new V, 0, none⟩)] K n H := by
  have hent57 : entB Try.prog 57 = true := by kernel_rfl
  refine ACall.run Try.func55 rfl Try.ntmps55 Try.results55 (by simp) fun J0 => ?_
  simp (disch := omega) [-hset_if, -Bool.decide_and, hset_ne, hone]
  have hb0 : hset n (.cells [.func (.func g) #[] caps] 87 1) H n = .cells [.func (.func g) #[] caps] 87 1 := hset_same _ _ _
  have hfr : ∀ i, i < n → hset n (.cells [.func (.func g) #[] caps] 87 1) H i = H i := fun i hi => hset_ne (by omega) _ _
  try rw [show (Value.func (.func g) #[] caps).cells.toList = [.func (.func g) #[] caps] from rfl]
  generalize hset n (.cells [.func (.func g) #[] caps] 87 1) H = H1 at *
  have hs1 := hs.frame (fun i hi => hfr i (hD i hi))
  have hV1 : H1 V = .cells [gv] 72 1 := by rw [hfr V hVn]; exact hV
  simp (disch := omega) [-hset_if, -Bool.decide_and, hset_ne, hV1, hV]
  refine some_ok (p := fun r => r.ps.any p) hs1 (fun i hi => by have := hD i hi; omega) (fun r hr n' H' K' a1 a2 a3 => ?_) hent57 ?_
  · refine c57_ok (D := D) (V := n) (ok := ok) (p := p) (by rw [a2 n (by omega)]; exact hb0) (by omega) ((hs1.ps r hr).frame (fun i hi => a2 i (by have := hD i hi; omega))) (fun i hi => by have := hD i hi; omega) (hs.pb r hr) ?_ (hok r hr) hent (fun n'' H'' b1 b2 => a3 n'' H'' b1 b2)
    intro s hs n2 H2 K2 b1 b2 b3
    exact hg s hs n2 H2 K2 (by omega) (fun i hi => by rw [b2 i (by omega), a2 i (by omega), hfr i hi]) b3
  · intro n1 H2 e1 e2
    simp (disch := omega) [-hset_if, -Bool.decide_and, hset_ne]
    refine Fin_id ?_
    exact hk _ _ (by omega) (fun i hi => by rw [e2 i (by omega), hfr i hi])
end Go.Aw.S15
