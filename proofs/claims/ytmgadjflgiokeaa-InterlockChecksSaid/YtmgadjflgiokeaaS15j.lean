/-
  Chapter 15: the reader of a line.
-/
import Derived.Test.YtmgadjflgiokeaaS15i
namespace Go.Aw.S15
open Go.RowKit Go.Proofs Go.Aw.Tab
set_option linter.unusedSimpArgs false
set_option linter.unusedVariables false
set_option maxRecDepth 10000
set_option maxHeartbeats 1000000
set_option pp.deepTerms false
set_option pp.deepTerms.threshold 4
set_option pp.maxSteps 1500
variable {w0 : World} {n : Nat} {H : Heap} {K : Value → Nat → Heap → Prop} {s : ByteArray}
structure Tok where
  kind : Int
  text : ByteArray
  num : Int
  pos : Int
  deriving Inhabited, DecidableEq
def Tok.cells (t : Tok) : List Value := [.int .i64 t.kind, .string t.text, .int .i64 t.num, .int .i64 t.pos]
attribute [local simp] Tok.cells
structure Rd where
  at' : Int
  code : Int
  line : Int
  col : Int
  deriving Inhabited, DecidableEq
def rdC (tv kv : Value) (hd : Bool) (lat : Int) (r : Rd) : List Value := [tv, .bool hd, kv, .int .i64 lat, .int .i64 r.at', .int .i64 r.code, .int .i64 r.line, .int .i64 r.col]
attribute [local simp] rdC
variable {tv kv : Value} {hd : Bool} {lat : Int} {r : Rd} {rp : Nat} {ts : List Tok} {D : Nat → Prop}
theorem good_ok {b : Nat} (hb : H b = .cells [.pointer (some ⟨new rp, 0, none⟩)] 83 1) (hr : H rp = .cells (rdC tv kv hd lat r) 85 1) (hk : K (.bool (decide (r.code = 0))) n H) : ACall ⟨Try.prog, w0⟩ 41 [.pointer (some ⟨new b, 0, none⟩)] K n H := by
  refine ACall.run Try.func41 rfl Try.ntmps41 Try.results41 (by simp) fun J0 => ?_
  simp (disch := omega) [-hset_if, -Bool.decide_and, hset_ne, hb, hr]
  refine Fin_id ?_
  simpa [beq_eq_decide'] using hk
def failP (ts : List Tok) (lat : Int) (r : Rd) (e i : Int) : Rd := if r.code = 0 then ⟨r.at', e, lat, if 0 < ts.length then (at_ ts (mnI i (ts.length - 1))).pos else 1⟩ else r
theorem fail_ok {e i : Int} (hs : SlR ⟨Try.prog, w0⟩ H D 4 Tok.cells tv ts) (hr : H rp = .cells (rdC tv kv hd lat r) 85 1) (hrn : rp < n) (hi : 0 < ts.length → 0 ≤ i) (hb : ts.length < 9223372036854775807)
    (hk : ∀ n' H', n ≤ n' → H' rp = .cells (rdC tv kv hd lat (failP ts lat r e i)) 85 1 → (∀ i, i < n → i ≠ rp → H' i = H i) → K (.tuple #[]) n' H') :
    ACall ⟨Try.prog, w0⟩ 44 [.pointer (some ⟨new rp, 0, none⟩), .int .i64 e, .int .i64 i] K n H := by
  have hsc := hs.cells
  refine ACall.run Try.func44 rfl Try.ntmps44 Try.results44 (by simp) fun J0 => ?_
  simp (disch := omega) [-hset_if, -Bool.decide_and, hset_ne, hr]
  refine cif_bne (fun h => ?_) (fun h => ?_)
  · simp (disch := omega) [-hset_if, -Bool.decide_and, hset_ne, hr, hs.lenK]
    refine cif_dec (fun h1 => ?_) (fun h1 => ?_)
    · have hm : 0 ≤ mnI i (ts.length - 1) ∧ mnI i (ts.length - 1) < ts.length := by have := hi (by omega); unfold mnI; split <;> omega
      simp (disch := omega) [-hset_if, -Bool.decide_and, hset_ne, hr, hs.ix elemS44, hs.load shp3, hm.1, hm.2]
      refine Fin_id (hk _ _ (by omega) (by rw [failP, if_pos h, if_pos (by omega)]; simp (disch := omega) [-hset_if, -Bool.decide_and, hset_ne]) (fun j h1 h2 => by simp (disch := omega) [-hset_if, -Bool.decide_and, hset_ne]))
    · simp (disch := omega) [-hset_if, -Bool.decide_and, hset_ne, hr]
      refine Fin_id (hk _ _ (by omega) (by rw [failP, if_pos h, if_neg (by omega)]; simp (disch := omega) [-hset_if, -Bool.decide_and, hset_ne]) (fun j h1 h2 => by simp (disch := omega) [-hset_if, -Bool.decide_and, hset_ne]))
  · simp (disch := omega) [-hset_if, -Bool.decide_and, hset_ne]
    refine Fin_id (hk _ _ (by omega) (by rw [failP, if_neg h]; exact hr) (fun _ _ _ => rfl))
def noTok : Tok := ⟨0, ⟨#[]⟩, 0, 0⟩
def takes (ts : List Tok) (r : Rd) (kind : Int) (s : ByteArray) : Bool := decide (r.at' < ts.length) && decide ((at_ ts r.at').kind = kind) && (decide (s = ⟨#[]⟩) || decide ((at_ ts r.at').text = s))
def takeP (ts : List Tok) (lat : Int) (r : Rd) (kind : Int) (s : ByteArray) : Tok × Rd :=
  if r.code = 0 then if takes ts r kind s = true then (at_ ts r.at', { r with at' := r.at' + 1 }) else (noTok, failP ts lat r 2 r.at') else (noTok, r)
theorem take_ok {kind : Int} (hs : SlR ⟨Try.prog, w0⟩ H D 4 Tok.cells tv ts) (hr : H rp = .cells (rdC tv kv hd lat r) 85 1) (hrn : rp < n) (hD : ∀ i, D i → i < n ∧ i ≠ rp) (hi : 0 ≤ r.at') (hi2 : r.at' ≤ ts.length) (hb : ts.length < 9223372036854775807)
    (hk : ∀ n' H', n ≤ n' → H' rp = .cells (rdC tv kv hd lat (takeP ts lat r kind s).2) 85 1 → (∀ i, i < n → i ≠ rp → H' i = H i) → K (.agg (takeP ts lat r kind s).1.cells.toArray) n' H') :
    ACall ⟨Try.prog, w0⟩ 42 [.pointer (some ⟨new rp, 0, none⟩), .int .i64 kind, .string s] K n H := by
  have hsc := hs.cells
  refine ACall.run Try.func42 rfl Try.ntmps42 Try.results42 (by simp) fun J0 => ?_
  simp (disch := omega) [-hset_if, -Bool.decide_and, hset_ne, hr]
  refine cif_bne (fun h => ?_) (fun h => ?_)
  · simp (disch := omega) [-hset_if, -Bool.decide_and, hset_ne, hr]
    refine AW.draw (X := ⟨_, 87, _, _⟩) (id := 3) mixed (.take 0 <| .take 1 <| .take 2 <| .take 3 <| .take 4 <| .take 5 <| .take 6 <| .take 7 <| .take 8 <| .take 9 <| .take 10 <| .take 11 <| .take 12 <| .take 13 <| .take 14 <| .take 15 <| .take 16 <| .take 17 <| .take 18 <| .take 19 <| .take 20 <| .take 21 <| .take 22 <| .take 23 <| .take 24 <| .take 25 <| .take 26 <| .take 27 <| .take 28 <| .take 29 <| .take 30 <| .take 31 <| .take 32 <| .take 33 <| .take 34 <| .take 35 <| .take 36 <| .take 37 <| .take 38 <| .take 39 <| .take 40 <| .take 41 <| .take 42 <| .take 43 <| .take 44 <| .take 45 <| .take 46 <| .done) (by kernel_rfl) ?_
    simp (disch := omega) [-hset_if, -Bool.decide_and, hset_ne, hr, hs.lenK]
    refine gif_dec (fun h1 => ?_) (fun h1 => ?_)
    · simp (disch := omega) [-hset_if, -Bool.decide_and, hset_ne, hr, hs.lenK]
      refine fail_ok (r := r) (hd := hd) (kv := kv) (lat := lat) (hs.frame (fun i hi => by have := hD i hi; simp (disch := omega) [-hset_if, -Bool.decide_and, hset_ne])) (by simp (disch := omega) [-hset_if, -Bool.decide_and, hset_ne, hr]) (by omega) (fun _ => hi) hb ?_
      intro n1 H1 a1 a2 a3
      simp (disch := omega) [-hset_if, -Bool.decide_and, hset_ne, a3]
      refine Fin_id ?_
      rw [show takeP ts lat r kind s = (noTok, failP ts lat r 2 r.at') from by rw [takeP, if_pos h, if_neg (show ¬ takes ts r kind s = true from by simp [takes]; intro _; omega)]] at hk
      exact hk _ _ (by omega) (by simp (disch := omega) [-hset_if, -Bool.decide_and, hset_ne, a2]) (fun j h1 h2 => by simp (disch := omega) [-hset_if, -Bool.decide_and, hset_ne, a3])
    · have h1' : r.at' < ts.length := by omega
      have hs0 : SlR ⟨Try.prog, w0⟩ (hset n (.cells [.int .i64 0, .string ⟨#[]⟩, .int .i64 0, .int .i64 0] 49 1) H) D 4 Tok.cells tv ts := hs.frame (fun i hi => by have := hD i hi; simp (disch := omega) [-hset_if, -Bool.decide_and, hset_ne])
      simp (disch := omega) [-hset_if, -Bool.decide_and, hset_ne, hr, hs.lenK, hs0.ix elemS44, hs0.load shp3, hs0.load0 shp3]
      refine gif_bne (fun h2 => ?_) (fun h2 => ?_)
      · simp (disch := omega) [-hset_if, -Bool.decide_and, hset_ne, hr, hs.lenK]
        refine gif_ndec (fun h3 => ?_) (fun h3 => ?_)
        · simp (disch := omega) [-hset_if, -Bool.decide_and, hset_ne, hr, hs.lenK, hs0.ix elemS44, hs0.load shp9]
          refine cif_dec (fun h4 => ?_) (fun h4 => ?_)
          · simp (disch := omega) [-hset_if, -Bool.decide_and, hset_ne, hr, hs.lenK]
            refine AW.draw (X := ⟨_, 87, _, _⟩) (id := 7) mixed (.take 0 <| .take 1 <| .take 2 <| .take 3 <| .take 4 <| .take 5 <| .take 6 <| .take 7 <| .take 8 <| .take 9 <| .take 10 <| .take 11 <| .each 12 [] (.done) <| .stop) (by kernel_rfl) ?_
            have hs1 : SlR ⟨Try.prog, w0⟩ (hset rp (.cells [tv, .bool hd, kv, .int .i64 lat, .int .i64 (r.at' + 1), .int .i64 r.code, .int .i64 r.line, .int .i64 r.col] 85 1) (hset n (.cells [.int .i64 0, .string ⟨#[]⟩, .int .i64 0, .int .i64 0] 49 1) H)) D 4 Tok.cells tv ts := hs.frame (fun i hi => by have := hD i hi; simp (disch := omega) [-hset_if, -Bool.decide_and, hset_ne])
            simp (disch := omega) [-hset_if, -Bool.decide_and, hset_ne, hr, hs.lenK, hs1.ix elemS44, hs1.load shp49, hs1.load0 shp49]
            refine Fin_id ?_
            rw [show takeP ts lat r kind s = (at_ ts r.at', { r with at' := r.at' + 1 }) from by rw [takeP, if_pos h, if_pos (by simp [takes, h1', h2, h4])]] at hk
            exact hk _ _ (by omega) (by simp (disch := omega) [-hset_if, -Bool.decide_and, hset_ne, hr]) (fun j h1 h2 => by simp (disch := omega) [-hset_if, -Bool.decide_and, hset_ne])
          · simp (disch := omega) [-hset_if, -Bool.decide_and, hset_ne, hr, hs.lenK]
            refine fail_ok (r := r) (hd := hd) (kv := kv) (lat := lat) (hs.frame (fun i hi => by have := hD i hi; simp (disch := omega) [-hset_if, -Bool.decide_and, hset_ne])) (by simp (disch := omega) [-hset_if, -Bool.decide_and, hset_ne, hr]) (by omega) (fun _ => hi) hb ?_
            intro n1 H1 a1 a2 a3
            simp (disch := omega) [-hset_if, -Bool.decide_and, hset_ne, a3]
            refine Fin_id ?_
            rw [show takeP ts lat r kind s = (noTok, failP ts lat r 2 r.at') from by rw [takeP, if_pos h, if_neg (show ¬ takes ts r kind s = true from by simp [takes, h1', h2, h3, h4])]] at hk
            exact hk _ _ (by omega) (by simp (disch := omega) [-hset_if, -Bool.decide_and, hset_ne, a2]) (fun j h1 h2 => by simp (disch := omega) [-hset_if, -Bool.decide_and, hset_ne, a3])
        · simp (disch := omega) [-hset_if, -Bool.decide_and, hset_ne, hr, hs.lenK]
          refine AW.draw (X := ⟨_, 87, _, _⟩) (id := 7) mixed (.take 0 <| .take 1 <| .take 2 <| .take 3 <| .take 4 <| .take 5 <| .take 6 <| .take 7 <| .take 8 <| .take 9 <| .take 10 <| .take 11 <| .each 12 [] (.done) <| .stop) (by kernel_rfl) ?_
          have hs1 : SlR ⟨Try.prog, w0⟩ (hset rp (.cells [tv, .bool hd, kv, .int .i64 lat, .int .i64 (r.at' + 1), .int .i64 r.code, .int .i64 r.line, .int .i64 r.col] 85 1) (hset n (.cells [.int .i64 0, .string ⟨#[]⟩, .int .i64 0, .int .i64 0] 49 1) H)) D 4 Tok.cells tv ts := hs.frame (fun i hi => by have := hD i hi; simp (disch := omega) [-hset_if, -Bool.decide_and, hset_ne])
          simp (disch := omega) [-hset_if, -Bool.decide_and, hset_ne, hr, hs.lenK, hs1.ix elemS44, hs1.load shp49, hs1.load0 shp49]
          refine Fin_id ?_
          rw [show takeP ts lat r kind s = (at_ ts r.at', { r with at' := r.at' + 1 }) from by rw [takeP, if_pos h, if_pos (by simp [takes, h1', h2, h3])]] at hk
          exact hk _ _ (by omega) (by simp (disch := omega) [-hset_if, -Bool.decide_and, hset_ne, hr]) (fun j h1 h2 => by simp (disch := omega) [-hset_if, -Bool.decide_and, hset_ne])
      · simp (disch := omega) [-hset_if, -Bool.decide_and, hset_ne, hr, hs.lenK]
        refine fail_ok (r := r) (hd := hd) (kv := kv) (lat := lat) (hs.frame (fun i hi => by have := hD i hi; simp (disch := omega) [-hset_if, -Bool.decide_and, hset_ne])) (by simp (disch := omega) [-hset_if, -Bool.decide_and, hset_ne, hr]) (by omega) (fun _ => hi) hb ?_
        intro n1 H1 a1 a2 a3
        simp (disch := omega) [-hset_if, -Bool.decide_and, hset_ne, a3]
        refine Fin_id ?_
        rw [show takeP ts lat r kind s = (noTok, failP ts lat r 2 r.at') from by rw [takeP, if_pos h, if_neg (show ¬ takes ts r kind s = true from by simp [takes, h2])]] at hk
        exact hk _ _ (by omega) (by simp (disch := omega) [-hset_if, -Bool.decide_and, hset_ne, a2]) (fun j h1 h2 => by simp (disch := omega) [-hset_if, -Bool.decide_and, hset_ne, a3])
  · simp (disch := omega) [-hset_if, -Bool.decide_and, hset_ne]
    refine Fin_id ?_
    rw [show takeP ts lat r kind s = (noTok, r) from (by rw [takeP, if_neg h])] at hk
    exact hk _ _ (by omega) (by simp (disch := omega) [-hset_if, -Bool.decide_and, hset_ne, hr]) (fun j h1 h2 => by simp (disch := omega) [-hset_if, -Bool.decide_and, hset_ne])
end Go.Aw.S15
