/-
  InterlockLines of chapter 15 holds: for every line and every group the call returns true and leaves its arguments alone.
-/
import Derived.Test.YtmgadjflgiokeaaRows
import Derived.Test.YtmgadjflgiokeaaS15bd
import Derived.Test.YtmgadjflgiokeaaS15be
import Derived.OpenShut
import Derived.JoinedCond
set_option linter.unusedSimpArgs false
namespace Go.Proofs.Ytmgadjflgiokeaa.interlockLines
open Go.ChangeShapes Go.WideShapes Go.ChangeAt Go.RowKit Go.Aw
theorem own : ownKnob Try.prog.godebug = none := by kernel_rfl
theorem laid : laidOutB Try.prog = true := by kernel_rfl
theorem readable : (Try.f4.params.toList.all fun t => Try.prog.readableRec t && decide (t < Try.prog.types.size)) = true := by kernel_rfl
set_option maxRecDepth 100000 in
theorem call {H : Type} {enc : TypeId × Value → H} {W : World} {base : Nat} {args : Array Value} {ds : List (DataW H)} {p : List MemPlace}
    (hA : DataW.TrodAll enc Try.prog W 0 (fun _ => true) true Try.f4.params.toList args.toList ds p) (hval : ∀ (j : Nat) t v, Try.f4.params[j]? = some t → args[j]? = some v → Value.okWide Try.prog W .any base t v) :
    Calls Try.prog 4 args W fun e W' => e = .returned (.bool true) ∧ Below W.heap.size W W' := by
  rw [Try.params4] at hA hval
  obtain ⟨v0, vs0, d0, ds0, p0, q0, hargs, rfl, rfl, h0, r0⟩ := trodAll_cons hA
  obtain ⟨v1, vs1, d1, ds1, p1, q1, rfl, rfl, rfl, h1, r1⟩ := trodAll_cons r0
  obtain ⟨rfl, rfl, rfl⟩ := trodAll_nil r1
  obtain rfl : args = #[v0, v1] := by cases args; simp_all
  refine calls_of_ACall (args := [v0, v1]) ?_
  obtain ⟨y0, ts0, hd0, A0, k0, c0, lat0, e0, ht0, hq0⟩ := S15.arg_line (hval 0 47 v0 rfl rfl) h0
  obtain ⟨nm1, y1, ps1, dd1, e1, hp1⟩ := S15.arg_group (hval 1 24 v1 rfl rfl) h1
  simp only [List.map_cons, List.map_nil, emb_int, emb_bool]
  rw [e0, e1]
  exact S15.lines_ok ht0 hq0 hp1 (fun _ _ => rfl)
set_option maxRecDepth 100000 in
theorem lifted (os : Os) (started : os.Started) (H : Type) (enc : TypeId × Value → H) :
    ReturnsInHanded {} Try.checked os 4 .any (Rows.interlockLinesSpec.pre6 enc Try.prog Try.f4 Rows.interlockLinesRow.domain false) (Rows.interlockLinesSpec.post enc Try.prog Try.f4 false true false false) := by
  refine returnsInHanded_of_change (C := Try.checked) own started (by kernel_rfl) Try.func4
    (ChangeSpec.witness6 (enc := enc) (C := Try.checked) false ⟨#[], #[.agg #[.slice none 0 0,.bool false,.slice none 0 0,.int .i64 0], .agg #[.string ⟨#[]⟩,.slice none 0 0,.int .i64 0]], []⟩ 8 (by kernel_rfl) (by kernel_rfl) (by kernel_rfl) (by kernel_rfl)) ?_
  intro W base args ds gs before hval hW _ _
  have hW' := hW
  obtain ⟨p, q, hA, hV, rfl, _, _⟩ := hW
  refine (call hA hval).mono fun e W' ⟨he, hg⟩ => ?_
  subst he
  refine ⟨_, rfl, law_post laid readable Try.underlying4 rfl rfl ?_ hW' hg⟩
  have hA2 : DataW.TrodAll enc Try.prog W 0 (fun _ => true) true Try.f4.params.toList args.toList ds p := hA
  rw [Try.params4] at hA2
  obtain ⟨v0, vs0, d0, ds0, p0, q0, hargs, rfl, rfl, h0, r0⟩ := trodAll_cons hA2
  obtain ⟨v1, vs1, d1, ds1, p1, q1, rfl, rfl, rfl, h1, r1⟩ := trodAll_cons r0
  obtain ⟨rfl, rfl, rfl⟩ := trodAll_nil r1
  rfl
theorem over : Rows.interlockLinesRow.holds Try.pinned (OpenSpec.ofChange Rows.interlockLinesSpec) :=
  OpenClaim.holds_of_wide 4 Try.f4 rfl rfl rfl rfl rfl rfl rfl ⟨rfl, rfl, rfl, rfl, rfl⟩ rfl rfl rfl rfl rfl (by kernel_rfl) Try.func4 (by kernel_rfl)
    (of_decide_eq_true (by kernel_rfl)) (by unfold Func.isWrapper; first | (rw [if_pos (by decide +kernel)]; kernel_rfl) | (rw [if_neg (by decide +kernel)]; exact ⟨rfl, rfl⟩))
    (fun os started H enc _ => lifted os started H enc)
theorem proved : Rows.InterlockLinesSaid := over
#print axioms proved
end Go.Proofs.Ytmgadjflgiokeaa.interlockLines
