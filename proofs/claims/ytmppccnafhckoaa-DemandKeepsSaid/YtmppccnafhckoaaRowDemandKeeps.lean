/-
  DemandKeeps of chapter 56 holds: for all lists of loads, states, powers, limits and gaps the call returns true and leaves its arguments alone.
-/
import Derived.Test.YtmppccnafhckoaaRows
import Derived.Test.YtmppccnafhckoaaS56v
import Derived.Test.YtmppccnafhckoaaS56p
import Derived.OpenShut
import Derived.JoinedCond
set_option linter.unusedSimpArgs false
namespace Go.Proofs.Ytmppccnafhckoaa.demandKeeps
open Go.ChangeShapes Go.WideShapes Go.ChangeAt Go.RowKit Go.Aw
theorem own : ownKnob Try.prog.godebug = none := by kernel_rfl
theorem laid : laidOutB Try.prog = true := by kernel_rfl
theorem readable : (Try.f7.params.toList.all fun t => Try.prog.readableRec t && decide (t < Try.prog.types.size)) = true := by kernel_rfl
set_option maxRecDepth 100000 in
theorem call {H : Type} {enc : TypeId × Value → H} {W : World} {base : Nat} {args : Array Value} {ds : List (DataW H)} {p : List MemPlace}
    (hA : DataW.TrodAll enc Try.prog W 0 (fun _ => true) true Try.f7.params.toList args.toList ds p) (hval : ∀ (j : Nat) t v, Try.f7.params[j]? = some t → args[j]? = some v → Value.okWide Try.prog W .any base t v) :
    Calls Try.prog 7 args W fun e W' => e = .returned (.bool true) ∧ Below W.heap.size W W' := by
  rw [Try.params7] at hA hval
  obtain ⟨v0, vs0, d0, ds0, p0, q0, hargs, rfl, rfl, h0, r0⟩ := trodAll_cons hA
  obtain ⟨v1, vs1, d1, ds1, p1, q1, rfl, rfl, rfl, h1, r1⟩ := trodAll_cons r0
  obtain ⟨v2, vs2, d2, ds2, p2, q2, rfl, rfl, rfl, h2, r2⟩ := trodAll_cons r1
  obtain ⟨v3, vs3, d3, ds3, p3, q3, rfl, rfl, rfl, h3, r3⟩ := trodAll_cons r2
  obtain ⟨v4, vs4, d4, ds4, p4, q4, rfl, rfl, rfl, h4, r4⟩ := trodAll_cons r3
  obtain ⟨v5, vs5, d5, ds5, p5, q5, rfl, rfl, rfl, h5, r5⟩ := trodAll_cons r4
  obtain ⟨rfl, rfl, rfl⟩ := trodAll_nil r5
  obtain rfl : args = #[v0, v1, v2, v3, v4, v5] := by cases args; simp_all
  refine calls_of_ACall (args := [v0, v1, v2, v3, v4, v5]) ?_
  obtain ⟨l0, hl0, hb0⟩ := S56.open_loads Try.underlying22 (arg_slice Try.underlying22 (hval 0 22 v0 rfl rfl) h0) rfl
  obtain ⟨l1, hl1, hb1⟩ := S56.open_stas Try.underlying44 (arg_slice Try.underlying44 (hval 1 44 v1 rfl rfl) h1) rfl
  obtain ⟨l2, hl2, hb2⟩ := S56.open_int64s Try.underlying45 (arg_slice Try.underlying45 (hval 2 45 v2 rfl rfl) h2) rfl
  obtain ⟨l3, hl3, hb3⟩ := S56.open_int64s Try.underlying45 (arg_slice Try.underlying45 (hval 3 45 v3 rfl rfl) h3) rfl
  obtain ⟨x4, rfl, w4⟩ := arg_int Try.underlying3 (hval 4 3 v4 rfl rfl) h4
  obtain ⟨l5, hl5, hb5⟩ := S56.open_ints Try.underlying24 (arg_slice Try.underlying24 (hval 5 24 v5 rfl rfl) h5) rfl
  simp only [List.map_cons, List.map_nil, emb_int, emb_bool]
  exact S56.keepsLaw_ok (hl0 _) (fun _ h => h.elim) (hl1 _) (fun _ h => h.elim) (hl2 _) (fun _ h => h.elim) (hl3 _) (fun _ h => h.elim) (hl5 _) (fun _ h => h.elim) (fun _ _ _ _ => rfl)
set_option maxRecDepth 100000 in
theorem lifted (os : Os) (started : os.Started) (H : Type) (enc : TypeId × Value → H) :
    ReturnsInHanded {} Try.checked os 7 .any (Rows.demandKeepsSpec.pre6 enc Try.prog Try.f7 Rows.demandKeepsRow.domain false) (Rows.demandKeepsSpec.post enc Try.prog Try.f7 false true false false) := by
  refine returnsInHanded_of_change (C := Try.checked) own started (by kernel_rfl) Try.func7
    (ChangeSpec.witness6 (enc := enc) (C := Try.checked) false ⟨#[], #[.slice none 0 0, .slice none 0 0, .slice none 0 0, .slice none 0 0, .int .i64 0, .slice none 0 0], []⟩ 8 (by kernel_rfl) (by kernel_rfl) (by kernel_rfl) (by kernel_rfl)) ?_
  intro W base args ds gs before hval hW _ _
  have hW' := hW
  obtain ⟨p, q, hA, hV, rfl, _, _⟩ := hW
  refine (call hA hval).mono fun e W' ⟨he, hg⟩ => ?_
  subst he
  refine ⟨_, rfl, law_post laid readable Try.underlying4 rfl rfl ?_ hW' hg⟩
  have hA2 : DataW.TrodAll enc Try.prog W 0 (fun _ => true) true Try.f7.params.toList args.toList ds p := hA
  rw [Try.params7] at hA2
  obtain ⟨v0, vs0, d0, ds0, p0, q0, hargs, rfl, rfl, h0, r0⟩ := trodAll_cons hA2
  obtain ⟨v1, vs1, d1, ds1, p1, q1, rfl, rfl, rfl, h1, r1⟩ := trodAll_cons r0
  obtain ⟨v2, vs2, d2, ds2, p2, q2, rfl, rfl, rfl, h2, r2⟩ := trodAll_cons r1
  obtain ⟨v3, vs3, d3, ds3, p3, q3, rfl, rfl, rfl, h3, r3⟩ := trodAll_cons r2
  obtain ⟨v4, vs4, d4, ds4, p4, q4, rfl, rfl, rfl, h4, r4⟩ := trodAll_cons r3
  obtain ⟨v5, vs5, d5, ds5, p5, q5, rfl, rfl, rfl, h5, r5⟩ := trodAll_cons r4
  obtain ⟨rfl, rfl, rfl⟩ := trodAll_nil r5
  rfl
theorem over : Rows.demandKeepsRow.holds Try.pinned (OpenSpec.ofChange Rows.demandKeepsSpec) :=
  OpenClaim.holds_of_wide 7 Try.f7 rfl rfl rfl rfl rfl rfl rfl ⟨rfl, rfl, rfl, rfl, rfl⟩ rfl rfl rfl rfl rfl (by kernel_rfl) Try.func7 (by kernel_rfl)
    (of_decide_eq_true (by kernel_rfl)) (by unfold Func.isWrapper; first | (rw [if_pos (by decide +kernel)]; kernel_rfl) | (rw [if_neg (by decide +kernel)]; exact ⟨rfl, rfl⟩))
    (fun os started H enc _ => lifted os started H enc)
theorem proved : Rows.DemandKeepsSaid := over
#print axioms proved
end Go.Proofs.Ytmppccnafhckoaa.demandKeeps
