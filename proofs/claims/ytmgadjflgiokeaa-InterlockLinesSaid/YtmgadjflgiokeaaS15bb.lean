/-
  Chapter 15, the reference: Load.
-/
import Derived.Test.YtmgadjflgiokeaaS15ba
namespace Go.Aw.S15
open Go.RowKit Go.Proofs Go.Aw.Tab
set_option linter.unusedSimpArgs false
set_option linter.unusedVariables false
set_option maxRecDepth 10000
set_option maxHeartbeats 2000000
set_option pp.deepTerms false
set_option pp.deepTerms.threshold 4
set_option pp.maxSteps 1500
attribute [local simp] Tok.cells range_get
variable {w0 : World} {n : Nat} {H : Heap} {K : Value → Nat → Heap → Prop} {s : ByteArray}
variable {tv kv : Value} {hd : Bool} {lat : Int} {ts : List Tok} {D E : Nat → Prop} {kn : Nat}
theorem fault_p {e col : Int} (hc : tv.cells = #[tv]) (hc2 : kv.cells = #[kv]) (hk : K (.tuple #[.agg #[.string ⟨#[]⟩, .slice none 0 0, .int .i64 0], .agg #[.int .i64 e, .int .i64 lat, .int .i64 col]]) n H) :
    ACall ⟨Try.prog, w0⟩ 47 [.int .i64 e, .agg #[tv, .bool hd, kv, .int .i64 lat], .int .i64 col] K n H := by
  refine ACall.go Try.func47 rfl Try.ntmps47 Try.results47 (by simp) fun hU hu J0 => ?_
  simp (disch := omega) [-hset_if, -Bool.decide_and, hset_ne, hc, hc2]
  refine AW.draw (X := ⟨_, 14, _, _⟩) (id := 1) mixed (.take 0 <| .take 1 <| .take 2 <| .take 3 <| .take 4 <| .take 5 <| .each 6 [1, 2, 3, 4, 5] (.each 7 [] (.done) <| .stop) <| .stop) (by kernel_rfl) ?_
  simp (disch := omega) [-hset_if, -Bool.decide_and, hset_ne]
  repeat' apply And.intro
  all_goals (refine Fin.same hU ?_ (by omega) (fun i hi => by simp (disch := omega) only [hset_ne]) hk; refine und_tuple ?_; intro c hc; simp at hc; rcases hc with rfl | rfl <;> exact und_agg (by simp))
def form6 : List ByteArray := [⟨#[103, 114, 111, 117, 112]⟩, e0, ⟨#[100, 101, 97, 100]⟩, ⟨#[35]⟩, ⟨#[111, 102]⟩, e0]
theorem form_at {i : Nat} (h : i < 6) : at_ form6 (i : Int) = if i = 3 then ⟨#[35]⟩ else wantS i := by
  match i, h with
  | 0, _ => rfl
  | 1, _ => rfl
  | 2, _ => rfl
  | 3, _ => rfl
  | 4, _ => rfl
  | 5, _ => rfl
theorem want_hash {i : Nat} : wantS i ≠ ⟨#[35]⟩ := by
  unfold wantS
  split
  · decide
  · split
    · decide
    · split <;> decide
theorem want_6 {i : Nat} (h : 6 ≤ i) : wantS i = e0 := by unfold wantS; rw [if_neg (by omega), if_neg (by omega), if_neg (by omega)]
structure LQ where
  i : Nat
  nm : ByteArray
  dd : Int
  ps : List ByteArray
  v : Value
  E : Nat → Prop
  last : Int
def RK (n : Nat) (H : Heap) (K : Value → Nat → Heap → Prop) (w0 : World) (x : LR) : Prop := ∀ n' H' v E, n ≤ n' → (∀ i, i < n → H' i = H i) → (∀ i, E i → n ≤ i) → OwR ⟨Try.prog, w0⟩ H' n' E 9 1 strC v x.ps → K (loadV x v) n' H'
theorem RK.err {n1 n0 : Nat} {H1 : Heap} {e j col : Int} {x : LR} (hk : RK n H K w0 x) (e1 : x = errL ts lat e j) (e2 : col = colAt ts j) (h1 : n ≤ n1) (h2 : ∀ i, i < n → H1 i = H i) :
    Fin n0 K (.tuple #[.agg #[.string ⟨#[]⟩, .slice none 0 0, .int .i64 0], .agg #[.int .i64 e, .int .i64 lat, .int .i64 col]]) n1 H1 := by
  subst e1 e2
  exact Fin_id (hk n1 H1 _ (fun _ => False) h1 h2 (fun _ h => h.elim) (OwR.nil (by omega)))
structure LQI (w0 : World) (n : Nat) (H : Heap) (K : Value → Nat → Heap → Prop) (tv kv : Value) (hd : Bool) (lat : Int) (ts : List Tok) (kn : Nat) (fv : Value) (s : LQ) (n1 : Nat) (H1 : Heap) : Prop where
  il : s.i ≤ ts.length
  le : n + 5 ≤ n1
  fr : ∀ i, i < n → H1 i = H i
  ln : H1 n = .cells [tv, .bool hd, kv, .int .i64 lat] 47 1
  g1 : H1 (n + 1) = .cells [.string ⟨#[]⟩, .slice none 0 0, .int .i64 0] 24 1
  g2 : H1 (n + 2) = .cells [.int .i64 0, .int .i64 0, .int .i64 0] 51 1
  fm : SlR ⟨Try.prog, w0⟩ H1 (· = n + 3) 1 strC fv form6
  gp : H1 (n + 4) = .cells [.string s.nm, s.v, .int .i64 s.dd] 24 1
  ow : OwR ⟨Try.prog, w0⟩ H1 n1 s.E 9 1 strC s.v s.ps
  lt : ∀ i, s.E i → n + 5 ≤ i
  col : ts.length ≤ s.i → s.last = colAt ts s.i
  pl : s.ps.length ≤ 16
  rk : RK n H K w0 (rl ts lat hd kn (ts.length + 7 - s.i) s.i s.nm s.dd s.ps)
theorem col_at {i : Nat} (h : i < ts.length) : (at_ ts (i : Int)).pos = colAt ts i := by
  unfold colAt
  rw [if_pos (by omega)]
  congr 2
  unfold mnI
  rw [if_neg (by omega)]
theorem LQI.frame {fv : Value} {s : LQ} {n1 m : Nat} {H1 H2 : Heap} (h : LQI w0 n H K tv kv hd lat ts kn fv s n1 H1) (hm : n1 ≤ m) (hH : ∀ i, i < n1 → H2 i = H1 i) : LQI w0 n H K tv kv hd lat ts kn fv s m H2 := by
  have := h.le
  exact ⟨h.il, by omega, fun i hi => by rw [hH i (by omega)]; exact h.fr i hi, by rw [hH n (by omega)]; exact h.ln, by rw [hH _ (by omega)]; exact h.g1, by rw [hH _ (by omega)]; exact h.g2, h.fm.frame (fun i hi => hH i (by omega)),
    by rw [hH _ (by omega)]; exact h.gp, h.ow.frame hm (fun i hi => hH i (h.ow.lt i hi)), h.lt, h.col, h.pl, h.rk⟩
theorem LQI.put {fv : Value} {i : Nat} {nm nm' : ByteArray} {dd dd' last last' : Int} {ps ps' : List ByteArray} {v v' : Value} {E E' : Nat → Prop} {n1 m : Nat} {H1 H2 : Heap} (h : LQI w0 n H K tv kv hd lat ts kn fv ⟨i, nm, dd, ps, v, E, last⟩ n1 H1)
    (hm : n1 ≤ m) (hH : ∀ j, j < n + 5 → j ≠ n + 4 → H2 j = H1 j) (hg : H2 (n + 4) = .cells [.string nm', v', .int .i64 dd'] 24 1) (ho : OwR ⟨Try.prog, w0⟩ H2 m E' 9 1 strC v' ps') (hl : ∀ j, E' j → n + 5 ≤ j) (hi : i + 1 ≤ ts.length)
    (hc : last' = colAt ts i) (hp : ps'.length ≤ 16) (hk : rl ts lat hd kn (ts.length + 7 - i) i nm dd ps = rl ts lat hd kn (ts.length + 7 - (i + 1)) (i + 1) nm' dd' ps') : LQI w0 n H K tv kv hd lat ts kn fv ⟨i + 1, nm', dd', ps', v', E', last'⟩ m H2 := by
  have := h.le
  refine ⟨hi, by omega, fun j hj => by rw [hH j (by omega) (by omega)]; exact h.fr j hj, by rw [hH n (by omega) (by omega)]; exact h.ln, by rw [hH _ (by omega) (by omega)]; exact h.g1, by rw [hH _ (by omega) (by omega)]; exact h.g2,
    h.fm.frame (fun j hj => hH j (by omega) (by omega)), hg, ho, hl, fun h1 => ?_, hp, by have := h.rk; simp only at this; rw [hk] at this; exact this⟩
  simp only at h1 ⊢
  rw [hc]
  have e : (ts.length : Int) = i + 1 := by omega
  unfold colAt mnI
  rw [if_pos (by omega), if_neg (by omega), if_pos (by omega), e]
  congr 2
  omega
theorem LoadR_ok {A : Option Addr} {c : Nat} (hs : SlR ⟨Try.prog, w0⟩ H D 4 Tok.cells tv ts) (hD : ∀ i, D i → i < n) (hb : ts.length ≤ 1000000)
    (hk : ∀ n' H' v E, n ≤ n' → (∀ i, i < n → H' i = H i) → (∀ i, E i → n ≤ i) → OwR ⟨Try.prog, w0⟩ H' n' E 9 1 strC v (loadP ts lat hd kn).ps → K (loadV (loadP ts lat hd kn) v) n' H') :
    ACall ⟨Try.prog, w0⟩ 20 [.agg #[tv, .bool hd, .slice A kn c, .int .i64 lat]] K n H := by
  have hsc := hs.cells
  have hk1 : RK n H K w0 (rl ts lat hd kn (ts.length + 7) 0 e0 0 []) := by rw [← loadP_rl (by omega)]; exact hk
  clear hk
  obtain ⟨kv, hkv⟩ : ∃ kv, kv = Value.slice A kn c := ⟨_, rfl⟩
  have hkc : kv.cells = #[kv] := by rw [hkv]; rfl
  have hk1' : kv.oneCell' = true := by rw [hkv]; simp
  have hkl : lenK .slice kv = some (kn : Int) := by rw [hkv]; rfl
  rw [← hkv]
  clear hkv
  obtain ⟨fv, hfv⟩ : ∃ fv, fv = Value.slice (some ⟨new (n + 3), 0, none⟩) 6 6 := ⟨_, rfl⟩
  refine ACall.code Try.func20 rfl Try.ntmps20 Try.results20 (by simp) fun J0 => ?_
  refine AW.ev ?_
  simp (disch := omega) [-hset_if, -Bool.decide_and, hset_ne, hsc, hkc]
  refine AW.while (σ := LQ) (fun s => ts.length + 7 - s.i) (fun s => [(1, .pointer (some ⟨new n, 0, none⟩)), (2, .pointer (some ⟨new (n + 1), 0, none⟩)), (3, .pointer (some ⟨new (n + 2), 0, none⟩)), (4, fv), (5, .pointer (some ⟨new (n + 4), 0, none⟩)), (6, .int .i64 s.last), (7, .int .i64 s.i)])
    (LQI w0 n H K tv kv hd lat ts kn fv) ⟨0, e0, 0, [], .slice none 0 0, fun _ => False, 1⟩ ?_ ?_ ?_
  · simp (disch := omega) [-hset_if, -Bool.decide_and, hset_ne, hfv]
  · refine ⟨by simp, by omega, (fun i hi => by simp (disch := omega) only [hset_ne]), by simp (disch := omega) [-hset_if, -Bool.decide_and, hset_ne], by simp (disch := omega) [-hset_if, -Bool.decide_and, hset_ne], by simp (disch := omega) [-hset_if, -Bool.decide_and, hset_ne], ?_, by simp (disch := omega) [-hset_if, -Bool.decide_and, hset_ne, e0], OwR.nil (by omega), fun _ h => h.elim, fun h => ?_, by simp, hk1⟩
    · rw [hfv]
      exact (OwR.lit (C := ⟨Try.prog, w0⟩) (n := n + 4) (j := n + 3) (sz := 1) (T := 9) (f := strC) (xs := form6) (l := 6) (by omega) (by simp [form6, strC]) (by omega) (by simp (disch := omega) [-hset_if, -Bool.decide_and, hset_ne, form6, strC, e0]) rfl rfl).sl
    · simp only at h ⊢
      unfold colAt
      rw [if_neg (by omega)]
  clear hfv hk1
  rintro ⟨i, nm, dd, ps, v, E, last⟩ n1 H1 L
  have hil := L.il
  have hle := L.le
  have hcol := L.col
  have hpl := L.pl
  dsimp only at hil hle hcol hpl ⊢
  have hs1 : SlR ⟨Try.prog, w0⟩ H1 D 4 Tok.cells tv ts := hs.frame (fun i hi => L.fr i (hD i hi))
  obtain ⟨q, hq1⟩ : ∃ q, ts.length + 7 - i = q + 1 := ⟨ts.length + 6 - i, by omega⟩
  simp (disch := omega) [-hset_if, -Bool.decide_and, hset_ne, L.ln, hs1.lenK]
  refine gif_dec (fun c1 => ?_) (fun c1 => ?_)
  · have cat := col_at c1
    simp (disch := omega) [-hset_if, -Bool.decide_and, hset_ne, L.ln, hs1.lenK]
    refine cif_dec (fun c2 => ?_) (fun c2 => ?_)
    · omega
    simp (disch := omega) [-hset_if, -Bool.decide_and, hset_ne, L.ln, hs1.ix elemS44, hs1.load0 shp49, L.fm.lenK]
    have hG : hset n1 (.cells [.int .i64 (at_ ts (i : Int)).kind, .string (at_ ts (i : Int)).text, .int .i64 (at_ ts (i : Int)).num, .int .i64 (at_ ts (i : Int)).pos] 49 1) H1 n1 = _ := hset_same _ _ _
    have LG := L.frame (m := n1 + 1) (H2 := hset n1 (.cells [.int .i64 (at_ ts (i : Int)).kind, .string (at_ ts (i : Int)).text, .int .i64 (at_ ts (i : Int)).num, .int .i64 (at_ ts (i : Int)).pos] 49 1) H1) (by omega) (fun j hj => hset_ne (by omega) _ _)
    generalize hset n1 (.cells [.int .i64 (at_ ts (i : Int)).kind, .string (at_ ts (i : Int)).text, .int .i64 (at_ ts (i : Int)).num, .int .i64 (at_ ts (i : Int)).pos] 49 1) H1 = G at hG LG ⊢
    have hq2 : ts.length + 7 - (i + 1) = q := by omega
    clear L
    have hf6 : form6.length = 6 := rfl
    have he0 : e0 = ⟨#[]⟩ := rfl
    rw [hf6]
    have how : OwR ⟨Try.prog, w0⟩ G (n1 + 1) E 9 1 strC v ps := LG.ow
    have hgp : G (n + 4) = .cells [.string nm, v, .int .i64 dd] 24 1 := LG.gp
    have hlt : ∀ j, E j → n + 5 ≤ j := LG.lt
    have hvc := how.sl.cells
    have hvo := how.sl.one
    refine cif_dec (fun c3 => ?_) (fun c3 => ?_)
    · have hW := form_at c3
      by_cases h3 : i = 3
      · rw [if_pos h3] at hW
        simp (disch := omega) [-hset_if, -Bool.decide_and, hset_ne, LG.fm.ix elemS22, LG.fm.load0 shp9, strC, hW, hG]
        refine cif_bne (fun d1 => ?_) (fun d1 => ?_)
        · simp (disch := omega) [-hset_if, -Bool.decide_and, hset_ne, hG]
          refine gif_dec (fun d2 => ?_) (fun d2 => ?_)
          · simp (disch := omega) [-hset_if, -Bool.decide_and, hset_ne, LG.ln, hG, hsc, hkc]
            refine fault_p hsc hkc ?_
            simp (disch := omega) [-hset_if, -Bool.decide_and, hset_ne, LG.ln, LG.g1, LG.g2, LG.gp, hG, hsc, hkc]
            refine LG.rk.err (ts := ts) (j := i) ?_ cat (by omega) (fun q hq => by simp (disch := omega) [-hset_if, -Bool.decide_and, hset_ne, LG.fr])
            simp only
            rw [hq1, rl]
            grind
          · simp (disch := omega) [-hset_if, -Bool.decide_and, hset_ne, hG]
            refine gif_dec (fun d3 => ?_) (fun d3 => ?_)
            · simp (disch := omega) [-hset_if, -Bool.decide_and, hset_ne, LG.ln, hG, hsc, hkc]
              refine fault_p hsc hkc ?_
              simp (disch := omega) [-hset_if, -Bool.decide_and, hset_ne, LG.ln, LG.g1, LG.g2, LG.gp, hG, hsc, hkc]
              refine LG.rk.err (ts := ts) (j := i) ?_ cat (by omega) (fun q hq => by simp (disch := omega) [-hset_if, -Bool.decide_and, hset_ne, LG.fr])
              simp only
              rw [hq1, rl]
              grind
            · simp (disch := omega) [-hset_if, -Bool.decide_and, hset_ne, hG]
              refine cif_bne (fun d4 => ?_) (fun d4 => ?_)
              · have hdv : 0 ≤ (at_ ts (i : Int)).num.tdiv 1000 ∧ (at_ ts (i : Int)).num.tdiv 1000 ≤ 3600000 := by
                  rw [Int.tdiv_eq_ediv_of_nonneg (by omega)]; omega
                simp (disch := omega) [-hset_if, -Bool.decide_and, hset_ne, hG, hgp, hvc, hvo]
                refine Next.mk ⟨i + 1, nm, (at_ ts (i : Int)).num.tdiv 1000, ps, v, E, (at_ ts (i : Int)).pos⟩ (by first | omega | (dsimp only; omega)) (by simp (disch := omega) [-hset_if, -Bool.decide_and, hset_ne]) ?_
                refine LG.put (by omega) (fun j h1 h2 => by simp (disch := omega) [-hset_if, -Bool.decide_and, hset_ne]) (by simp (disch := omega) [-hset_if, -Bool.decide_and, hset_ne]) (how.frame (by omega) (fun j hj => by have := hlt j hj; simp (disch := omega) [-hset_if, -Bool.decide_and, hset_ne])) hlt (by omega) cat hpl ?_
                rw [hq1, hq2, rl]
                grind
              · simp (disch := omega) [-hset_if, -Bool.decide_and, hset_ne, LG.ln, hG, hsc, hkc]
                refine fault_p hsc hkc ?_
                simp (disch := omega) [-hset_if, -Bool.decide_and, hset_ne, LG.ln, LG.g1, LG.g2, LG.gp, hG, hsc, hkc]
                refine LG.rk.err (ts := ts) (j := i) ?_ cat (by omega) (fun q hq => by simp (disch := omega) [-hset_if, -Bool.decide_and, hset_ne, LG.fr])
                simp only
                rw [hq1, rl]
                grind
        · simp (disch := omega) [-hset_if, -Bool.decide_and, hset_ne, LG.ln, hG, hsc, hkc]
          refine fault_p hsc hkc ?_
          simp (disch := omega) [-hset_if, -Bool.decide_and, hset_ne, LG.ln, LG.g1, LG.g2, LG.gp, hG, hsc, hkc]
          refine LG.rk.err (ts := ts) (j := i) ?_ cat (by omega) (fun q hq => by simp (disch := omega) [-hset_if, -Bool.decide_and, hset_ne, LG.fr])
          simp only
          rw [hq1, rl]
          grind
      · rw [if_neg h3] at hW
        have hnw := decide_eq_false (@want_hash i)
        simp (disch := omega) [-hset_if, -Bool.decide_and, hset_ne, LG.fm.ix elemS22, LG.fm.load0 shp9, strC, hW, hnw, hG]
        refine cif_bne (fun d1 => ?_) (fun d1 => ?_)
        · simp (disch := omega) [-hset_if, -Bool.decide_and, hset_ne]
          refine gif_ndec (fun d2 => ?_) (fun d2 => ?_)
          · simp (disch := omega) [-hset_if, -Bool.decide_and, hset_ne, hG]
            refine cif_dec (fun d3 => ?_) (fun d3 => ?_)
            · have d2' := decide_eq_false d2
              simp (disch := omega) [-hset_if, -Bool.decide_and, hset_ne, d2']
              refine Next.mk ⟨i + 1, nm, dd, ps, v, E, (at_ ts (i : Int)).pos⟩ (by first | omega | (dsimp only; omega)) (by simp (disch := omega) [-hset_if, -Bool.decide_and, hset_ne]) ?_
              refine LG.put (by omega) (fun j h1 h2 => rfl) hgp how hlt (by omega) cat hpl ?_
              rw [hq1, hq2, rl]
              grind
            · simp (disch := omega) [-hset_if, -Bool.decide_and, hset_ne, LG.ln, hG, hsc, hkc]
              refine fault_p hsc hkc ?_
              simp (disch := omega) [-hset_if, -Bool.decide_and, hset_ne, LG.ln, LG.g1, LG.g2, LG.gp, hG, hsc, hkc]
              refine LG.rk.err (ts := ts) (j := i) ?_ cat (by omega) (fun q hq => by simp (disch := omega) [-hset_if, -Bool.decide_and, hset_ne, LG.fr])
              simp only
              rw [hq1, rl]
              grind
          · have d2' := decide_eq_true d2
            have hW : wantS i = e0 := d2
            simp (disch := omega) [-hset_if, -Bool.decide_and, hset_ne, d2', hG]
            refine NameR_ok ?_
            simp (disch := omega) [-hset_if, -Bool.decide_and, hset_ne]
            refine cif_var (fun m1 => ?_) (fun m1 => ?_)
            · simp (disch := omega) [-hset_if, -Bool.decide_and, hset_ne]
              refine cif_beq (fun m2 => ?_) (fun m2 => ?_)
              · simp (disch := omega) [-hset_if, -Bool.decide_and, hset_ne, hG, hgp, hvc, hvo]
                refine Next.mk ⟨i + 1, (at_ ts (i : Int)).text, dd, ps, v, E, (at_ ts (i : Int)).pos⟩ (by first | omega | (dsimp only; omega)) (by simp (disch := omega) [-hset_if, -Bool.decide_and, hset_ne]) ?_
                refine LG.put (by omega) (fun j h1 h2 => by simp (disch := omega) [-hset_if, -Bool.decide_and, hset_ne]) (by simp (disch := omega) [-hset_if, -Bool.decide_and, hset_ne]) (how.frame (by omega) (fun j hj => by have := hlt j hj; simp (disch := omega) [-hset_if, -Bool.decide_and, hset_ne])) hlt (by omega) cat hpl ?_
                rw [hq1, hq2, rl]
                grind
              · simp (disch := omega) [-hset_if, -Bool.decide_and, hset_ne, hG, hgp, how.sl.lenK]
                refine cif_dec (fun m3 => ?_) (fun m3 => ?_)
                · simp (disch := omega) [-hset_if, -Bool.decide_and, hset_ne, LG.ln, hG, hsc, hkc]
                  refine fault_p hsc hkc ?_
                  simp (disch := omega) [-hset_if, -Bool.decide_and, hset_ne, LG.ln, LG.g1, LG.g2, LG.gp, hG, hsc, hkc]
                  refine LG.rk.err (ts := ts) (j := i) ?_ cat (by omega) (fun q hq => by simp (disch := omega) [-hset_if, -Bool.decide_and, hset_ne, LG.fr])
                  simp only
                  rw [hq1, rl]
                  grind
                · simp (disch := omega) [-hset_if, -Bool.decide_and, hset_ne]
                  refine AW.while (σ := Nat) (fun k => ps.length - k) (fun k => [(1, .pointer (some ⟨new n, 0, none⟩)), (2, .pointer (some ⟨new (n + 1), 0, none⟩)), (3, .pointer (some ⟨new (n + 2), 0, none⟩)), (4, fv), (5, .pointer (some ⟨new (n + 4), 0, none⟩)), (6, .int .i64 (at_ ts (i : Int)).pos), (7, .int .i64 i), (8, .pointer (some ⟨new n1, 0, none⟩)), (10, .int .i64 k)])
                    (fun k n2 H2 => n2 = n1 + 1 ∧ H2 = G ∧ k ≤ ps.length ∧ ∀ p : Nat, p < k → at_ ps (p : Int) ≠ (at_ ts (i : Int)).text) 0 ?_ ?_ ?_
                  · simp (disch := omega) [-hset_if, -Bool.decide_and, hset_ne]
                  · exact ⟨rfl, rfl, by omega, fun p hp => by omega⟩
                  rintro k n2 H2 ⟨rfl, rfl, k1, k2⟩
                  simp (disch := omega) [-hset_if, -Bool.decide_and, hset_ne, hgp, how.sl.lenK]
                  refine cif_dec (fun k3 => ?_) (fun k3 => ?_)
                  · simp (disch := omega) [-hset_if, -Bool.decide_and, hset_ne]
                    refine AW.draw (X := ⟨_, 184, _, _⟩) (id := 32) mixed (.take 0 <| .take 1 <| .take 2 <| .take 3 <| .take 4 <| .take 5 <| .take 6 <| .take 7 <| .done) (by kernel_rfl) ?_
                    simp (disch := omega) [-hset_if, -Bool.decide_and, hset_ne, hgp, how.sl.ix elemS22, how.sl.load0 shp9, hG, strC]
                    refine cif_dec (fun k4 => ?_) (fun k4 => ?_)
                    · have k5 : (ps.any fun x => decide (x = (at_ ts (i : Int)).text)) = true := List.any_eq_true.2 ⟨_, at_mem k3, by simpa using k4⟩
                      simp (disch := omega) [-hset_if, -Bool.decide_and, hset_ne, LG.ln, hG, hsc, hkc]
                      refine fault_p hsc hkc ?_
                      simp (disch := omega) [-hset_if, -Bool.decide_and, hset_ne, LG.ln, LG.g1, LG.g2, LG.gp, hG, hsc, hkc]
                      refine LG.rk.err (ts := ts) (j := i) ?_ cat (by omega) (fun q hq => by simp (disch := omega) [-hset_if, -Bool.decide_and, hset_ne, LG.fr])
                      simp only
                      rw [hq1, rl]
                      grind
                    · simp (disch := omega) [-hset_if, -Bool.decide_and, hset_ne]
                      refine Next.mk (k + 1) (by first | omega | (dsimp only; omega)) (by simp (disch := omega) [-hset_if, -Bool.decide_and, hset_ne]) ⟨rfl, rfl, by omega, fun p hp => ?_⟩
                      by_cases e : p < k
                      · exact k2 p e
                      · obtain rfl : p = k := by omega
                        exact k4
                  · have k5 : (ps.any fun x => decide (x = (at_ ts (i : Int)).text)) = false := by
                      rw [List.any_eq_false]
                      intro x hx
                      obtain ⟨p, hp, rfl⟩ := List.getElem_of_mem hx
                      have := k2 p (by omega)
                      rw [at_nat hp] at this
                      simpa using this
                    simp (disch := omega) [-hset_if, -Bool.decide_and, hset_ne, hgp, hG]
                    refine how.push elemS22 zero9 rfl (at_ ts (i : Int)).text rfl rfl rfl (by omega) (by omega) ?_
                    intro v2 n3 H3 D2 p1 p2 p3 p4 p5
                    have hE : ∀ j, D2 j → n + 5 ≤ j := fun j hj => by
                      rcases p4 j hj with h | h
                      · exact hlt j h
                      · omega
                    have g4 : H3 (n + 4) = .cells [.string nm, v, .int .i64 dd] 24 1 := by rw [p3 _ (by omega) (fun h => by have := hlt _ h; omega)]; exact hgp
                    simp (disch := omega) [-hset_if, -Bool.decide_and, hset_ne, g4, p5.sl.cells, p5.sl.one]
                    refine Next.mk ⟨i + 1, nm, dd, ps ++ [(at_ ts (i : Int)).text], v2, D2, (at_ ts (i : Int)).pos⟩ (by first | omega | (dsimp only; omega)) (by simp (disch := omega) [-hset_if, -Bool.decide_and, hset_ne]) ?_
                    refine LG.put (by omega) (fun j h1 h2 => by rw [hset_ne h2, p3 j (by omega) (fun h => by have := hlt _ h; omega)]) (by simp (disch := omega) [-hset_if, -Bool.decide_and, hset_ne]) (p5.frame (by omega) (fun j hj => by have := hE j hj; simp (disch := omega) [-hset_if, -Bool.decide_and, hset_ne])) hE (by omega) cat (by simp; omega) ?_
                    rw [hq1, hq2, rl]
                    grind
            · simp (disch := omega) [-hset_if, -Bool.decide_and, hset_ne, LG.ln, hG, hsc, hkc]
              refine fault_p hsc hkc ?_
              simp (disch := omega) [-hset_if, -Bool.decide_and, hset_ne, LG.ln, LG.g1, LG.g2, LG.gp, hG, hsc, hkc]
              refine LG.rk.err (ts := ts) (j := i) ?_ cat (by omega) (fun q hq => by simp (disch := omega) [-hset_if, -Bool.decide_and, hset_ne, LG.fr])
              simp only
              rw [hq1, rl]
              grind
        · simp (disch := omega) [-hset_if, -Bool.decide_and, hset_ne, LG.ln, hG, hsc, hkc]
          refine fault_p hsc hkc ?_
          simp (disch := omega) [-hset_if, -Bool.decide_and, hset_ne, LG.ln, LG.g1, LG.g2, LG.gp, hG, hsc, hkc]
          refine LG.rk.err (ts := ts) (j := i) ?_ cat (by omega) (fun q hq => by simp (disch := omega) [-hset_if, -Bool.decide_and, hset_ne, LG.fr])
          simp only
          rw [hq1, rl]
          grind
    · have hW := @want_6 i (by omega)
      simp (disch := omega) [-hset_if, -Bool.decide_and, hset_ne, hG]
      refine cif_bne (fun d1 => ?_) (fun d1 => ?_)
      · simp (disch := omega) [-hset_if, -Bool.decide_and, hset_ne, hG]
        refine NameR_ok ?_
        simp (disch := omega) [-hset_if, -Bool.decide_and, hset_ne]
        refine cif_var (fun m1 => ?_) (fun m1 => ?_)
        · simp (disch := omega) [-hset_if, -Bool.decide_and, hset_ne]
          refine cif_beq (fun m2 => ?_) (fun m2 => ?_)
          · simp (disch := omega) [-hset_if, -Bool.decide_and, hset_ne, hG, hgp, hvc, hvo]
            refine Next.mk ⟨i + 1, (at_ ts (i : Int)).text, dd, ps, v, E, (at_ ts (i : Int)).pos⟩ (by first | omega | (dsimp only; omega)) (by simp (disch := omega) [-hset_if, -Bool.decide_and, hset_ne]) ?_
            refine LG.put (by omega) (fun j h1 h2 => by simp (disch := omega) [-hset_if, -Bool.decide_and, hset_ne]) (by simp (disch := omega) [-hset_if, -Bool.decide_and, hset_ne]) (how.frame (by omega) (fun j hj => by have := hlt j hj; simp (disch := omega) [-hset_if, -Bool.decide_and, hset_ne])) hlt (by omega) cat hpl ?_
            rw [hq1, hq2, rl]
            grind
          · simp (disch := omega) [-hset_if, -Bool.decide_and, hset_ne, hG, hgp, how.sl.lenK]
            refine cif_dec (fun m3 => ?_) (fun m3 => ?_)
            · simp (disch := omega) [-hset_if, -Bool.decide_and, hset_ne, LG.ln, hG, hsc, hkc]
              refine fault_p hsc hkc ?_
              simp (disch := omega) [-hset_if, -Bool.decide_and, hset_ne, LG.ln, LG.g1, LG.g2, LG.gp, hG, hsc, hkc]
              refine LG.rk.err (ts := ts) (j := i) ?_ cat (by omega) (fun q hq => by simp (disch := omega) [-hset_if, -Bool.decide_and, hset_ne, LG.fr])
              simp only
              rw [hq1, rl]
              grind
            · simp (disch := omega) [-hset_if, -Bool.decide_and, hset_ne]
              refine AW.while (σ := Nat) (fun k => ps.length - k) (fun k => [(1, .pointer (some ⟨new n, 0, none⟩)), (2, .pointer (some ⟨new (n + 1), 0, none⟩)), (3, .pointer (some ⟨new (n + 2), 0, none⟩)), (4, fv), (5, .pointer (some ⟨new (n + 4), 0, none⟩)), (6, .int .i64 (at_ ts (i : Int)).pos), (7, .int .i64 i), (8, .pointer (some ⟨new n1, 0, none⟩)), (10, .int .i64 k)])
                (fun k n2 H2 => n2 = n1 + 1 ∧ H2 = G ∧ k ≤ ps.length ∧ ∀ p : Nat, p < k → at_ ps (p : Int) ≠ (at_ ts (i : Int)).text) 0 ?_ ?_ ?_
              · simp (disch := omega) [-hset_if, -Bool.decide_and, hset_ne]
              · exact ⟨rfl, rfl, by omega, fun p hp => by omega⟩
              rintro k n2 H2 ⟨rfl, rfl, k1, k2⟩
              simp (disch := omega) [-hset_if, -Bool.decide_and, hset_ne, hgp, how.sl.lenK]
              refine cif_dec (fun k3 => ?_) (fun k3 => ?_)
              · simp (disch := omega) [-hset_if, -Bool.decide_and, hset_ne]
                refine AW.draw (X := ⟨_, 184, _, _⟩) (id := 32) mixed (.take 0 <| .take 1 <| .take 2 <| .take 3 <| .take 4 <| .take 5 <| .take 6 <| .take 7 <| .done) (by kernel_rfl) ?_
                simp (disch := omega) [-hset_if, -Bool.decide_and, hset_ne, hgp, how.sl.ix elemS22, how.sl.load0 shp9, hG, strC]
                refine cif_dec (fun k4 => ?_) (fun k4 => ?_)
                · have k5 : (ps.any fun x => decide (x = (at_ ts (i : Int)).text)) = true := List.any_eq_true.2 ⟨_, at_mem k3, by simpa using k4⟩
                  simp (disch := omega) [-hset_if, -Bool.decide_and, hset_ne, LG.ln, hG, hsc, hkc]
                  refine fault_p hsc hkc ?_
                  simp (disch := omega) [-hset_if, -Bool.decide_and, hset_ne, LG.ln, LG.g1, LG.g2, LG.gp, hG, hsc, hkc]
                  refine LG.rk.err (ts := ts) (j := i) ?_ cat (by omega) (fun q hq => by simp (disch := omega) [-hset_if, -Bool.decide_and, hset_ne, LG.fr])
                  simp only
                  rw [hq1, rl]
                  grind
                · simp (disch := omega) [-hset_if, -Bool.decide_and, hset_ne]
                  refine Next.mk (k + 1) (by first | omega | (dsimp only; omega)) (by simp (disch := omega) [-hset_if, -Bool.decide_and, hset_ne]) ⟨rfl, rfl, by omega, fun p hp => ?_⟩
                  by_cases e : p < k
                  · exact k2 p e
                  · obtain rfl : p = k := by omega
                    exact k4
              · have k5 : (ps.any fun x => decide (x = (at_ ts (i : Int)).text)) = false := by
                  rw [List.any_eq_false]
                  intro x hx
                  obtain ⟨p, hp, rfl⟩ := List.getElem_of_mem hx
                  have := k2 p (by omega)
                  rw [at_nat hp] at this
                  simpa using this
                simp (disch := omega) [-hset_if, -Bool.decide_and, hset_ne, hgp, hG]
                refine how.push elemS22 zero9 rfl (at_ ts (i : Int)).text rfl rfl rfl (by omega) (by omega) ?_
                intro v2 n3 H3 D2 p1 p2 p3 p4 p5
                have hE : ∀ j, D2 j → n + 5 ≤ j := fun j hj => by
                  rcases p4 j hj with h | h
                  · exact hlt j h
                  · omega
                have g4 : H3 (n + 4) = .cells [.string nm, v, .int .i64 dd] 24 1 := by rw [p3 _ (by omega) (fun h => by have := hlt _ h; omega)]; exact hgp
                simp (disch := omega) [-hset_if, -Bool.decide_and, hset_ne, g4, p5.sl.cells, p5.sl.one]
                refine Next.mk ⟨i + 1, nm, dd, ps ++ [(at_ ts (i : Int)).text], v2, D2, (at_ ts (i : Int)).pos⟩ (by first | omega | (dsimp only; omega)) (by simp (disch := omega) [-hset_if, -Bool.decide_and, hset_ne]) ?_
                refine LG.put (by omega) (fun j h1 h2 => by rw [hset_ne h2, p3 j (by omega) (fun h => by have := hlt _ h; omega)]) (by simp (disch := omega) [-hset_if, -Bool.decide_and, hset_ne]) (p5.frame (by omega) (fun j hj => by have := hE j hj; simp (disch := omega) [-hset_if, -Bool.decide_and, hset_ne])) hE (by omega) cat (by simp; omega) ?_
                rw [hq1, hq2, rl]
                grind
        · simp (disch := omega) [-hset_if, -Bool.decide_and, hset_ne, LG.ln, hG, hsc, hkc]
          refine fault_p hsc hkc ?_
          simp (disch := omega) [-hset_if, -Bool.decide_and, hset_ne, LG.ln, LG.g1, LG.g2, LG.gp, hG, hsc, hkc]
          refine LG.rk.err (ts := ts) (j := i) ?_ cat (by omega) (fun q hq => by simp (disch := omega) [-hset_if, -Bool.decide_and, hset_ne, LG.fr])
          simp only
          rw [hq1, rl]
          grind
      · simp (disch := omega) [-hset_if, -Bool.decide_and, hset_ne, LG.ln, hG, hsc, hkc]
        refine fault_p hsc hkc ?_
        simp (disch := omega) [-hset_if, -Bool.decide_and, hset_ne, LG.ln, LG.g1, LG.g2, LG.gp, hG, hsc, hkc]
        refine LG.rk.err (ts := ts) (j := i) ?_ cat (by omega) (fun q hq => by simp (disch := omega) [-hset_if, -Bool.decide_and, hset_ne, LG.fr])
        simp only
        rw [hq1, rl]
        grind
  · have hf6 : form6.length = 6 := rfl
    have hG : H1 n = .cells [tv, .bool hd, kv, .int .i64 lat] 47 1 := L.ln
    have LG := L
    have how : OwR ⟨Try.prog, w0⟩ H1 n1 E 9 1 strC v ps := L.ow
    have hgp : H1 (n + 4) = .cells [.string nm, v, .int .i64 dd] 24 1 := L.gp
    have hvc := how.sl.cells
    have hvo := how.sl.one
    have hc := hcol (by omega)
    have hc2 : last = colAt ts (ts.length - 1) := by rw [hc]; exact col_last (by omega)
    simp (disch := omega) [-hset_if, -Bool.decide_and, hset_ne, L.fm.lenK, hf6]
    refine cif_dec (fun c2 => ?_) (fun c2 => ?_)
    · simp (disch := omega) [-hset_if, -Bool.decide_and, hset_ne, L.ln, hs1.lenK]
      refine cif_dec (fun c3 => ?_) (fun c3 => ?_)
      · simp (disch := omega) [-hset_if, -Bool.decide_and, hset_ne, LG.ln, hsc, hkc]
        refine fault_p hsc hkc ?_
        simp (disch := omega) [-hset_if, -Bool.decide_and, hset_ne, LG.ln, LG.g1, LG.g2, LG.gp, hG, hsc, hkc]
        refine LG.rk.err (ts := ts) (j := i) ?_ hc (by omega) (fun q hq => by simp (disch := omega) [-hset_if, -Bool.decide_and, hset_ne, LG.fr])
        simp only
        rw [hq1, rl]
        grind
      · omega
    · simp (disch := omega) [-hset_if, -Bool.decide_and, hset_ne, hgp, how.sl.lenK]
      refine cif_dec (fun c3 => ?_) (fun c3 => ?_)
      · simp (disch := omega) [-hset_if, -Bool.decide_and, hset_ne, LG.ln, hsc, hkc]
        refine fault_p hsc hkc ?_
        simp (disch := omega) [-hset_if, -Bool.decide_and, hset_ne, LG.ln, LG.g1, LG.g2, LG.gp, hG, hsc, hkc]
        refine LG.rk.err (ts := ts) (j := (ts.length - 1)) ?_ hc2 (by omega) (fun q hq => by simp (disch := omega) [-hset_if, -Bool.decide_and, hset_ne, LG.fr])
        simp only
        rw [hq1, rl]
        rw [if_pos (by omega), finL, if_pos (by omega)]
      · simp (disch := omega) [-hset_if, -Bool.decide_and, hset_ne, L.ln]
        refine gif_var (fun c4 => ?_) (fun c4 => ?_)
        · simp (disch := omega) [-hset_if, -Bool.decide_and, hset_ne, LG.ln, hsc, hkc]
          refine fault_p hsc hkc ?_
          simp (disch := omega) [-hset_if, -Bool.decide_and, hset_ne, LG.ln, LG.g1, LG.g2, LG.gp, hG, hsc, hkc]
          refine LG.rk.err (ts := ts) (j := (ts.length - 1)) ?_ hc2 (by omega) (fun q hq => by simp (disch := omega) [-hset_if, -Bool.decide_and, hset_ne, LG.fr])
          simp only
          rw [hq1, rl]
          rw [if_pos (by omega), finL, if_neg (by omega), if_pos (.inl c4)]
        · simp (disch := omega) [-hset_if, -Bool.decide_and, hset_ne, L.ln, hkl]
          refine cif_dec (fun c5 => ?_) (fun c5 => ?_)
          · simp (disch := omega) [-hset_if, -Bool.decide_and, hset_ne, LG.ln, hsc, hkc]
            refine fault_p hsc hkc ?_
            simp (disch := omega) [-hset_if, -Bool.decide_and, hset_ne, LG.ln, LG.g1, LG.g2, LG.gp, hG, hsc, hkc]
            refine LG.rk.err (ts := ts) (j := (ts.length - 1)) ?_ hc2 (by omega) (fun q hq => by simp (disch := omega) [-hset_if, -Bool.decide_and, hset_ne, LG.fr])
            simp only
            rw [hq1, rl]
            rw [if_pos (by omega), finL, if_neg (by omega), if_pos (.inr (by omega))]
          · simp (disch := omega) [-hset_if, -Bool.decide_and, hset_ne, hgp, L.g1, L.g2, hvc, hvo]
            refine Fin_id ?_
            have hk := L.rk
            simp only at hk
            have e1 : rl ts lat hd kn (ts.length + 7 - i) i nm dd ps = ⟨nm, ps, dd, 0, 0, 0⟩ := by
              rw [hq1, rl, if_pos (by omega), finL, if_neg (by omega), if_neg (fun h => h.elim (fun h => by rw [c4] at h; cases h) (fun h => c5 h))]
            rw [e1] at hk
            exact hk _ _ v E (by omega) (fun j hj => by simp (disch := omega) [-hset_if, -Bool.decide_and, hset_ne, L.fr]) (fun j hj => by have := L.lt j hj; omega) (how.frame (by omega) (fun j hj => by have := L.lt j hj; simp (disch := omega) [-hset_if, -Bool.decide_and, hset_ne]))
end Go.Aw.S15
