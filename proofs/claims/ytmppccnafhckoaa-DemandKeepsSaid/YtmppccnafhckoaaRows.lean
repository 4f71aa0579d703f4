/-
  No cell of these rows narrows 'for every input' (looked for: loops, veiled, ifaces, maps, wideKeys, modest, calm, conditions, laid).
  DERIVED. THE GIVEN ROWS OF THIS SEAT. 7 by the template 'for every input the law returns true; each argument reads behind the call as it read before'; 0 by the template 'total and deterministic' (their statements: YtmppccnafhckoaaTotals.lean).
  GIVEN WITH THE SEED: the statements are not yours to turn. If you find one false, say at which input.
  Laid BY PROGRAM, IN A SANDBOX (cutbox-rows.mjs): the forced cells as the released guide's own fill.sh prints them over the translation 1c9150f00739a8d4… (all of the seat's roots in one cut). By AI agents, Wed Nov 11 2026. No macro, syntax, notation, axiom, sorry.
-/
import Derived.Test.YtmppccnafhckoaaChecked
import GoSem.Claim
import GoSem.ClaimJoined
import GoSem.ClaimMapViews
import Derived.JoinedTies
import Derived.KernelRfl
namespace Go.Proofs.Ytmppccnafhckoaa
/- THE CELL 'sum', in the pinned program and in every row, IS THE sha256 OF THE DUMP (.gsa) THAT YtmppccnafhckoaaProg.lean LOADS. Nothing in Lean hashes anything: it is a label: what it is worth is what the hold of that sum in a sandbox is worth. -/
noncomputable def Try.pinned : Pinned := { name := "ytmppccnafhckoaa", sum := "1c9150f00739a8d4b651b6fa5fc37e7301da6a3286296002db0fe1b304eb2f56", checked := Try.checked }
namespace Rows
def none {H : Type} : Left H := { results := [], args := [] }

/-- 'plenumlaw56.DemandOrders': WHATEVER THE INPUT: true; the input reads as it did. -/
def demandOrdersSpec : ChangeSpec := { name := "demandOrders", fn := fun _ => fun
  | [d] => { results := [.lit (.bool true)], args := [d] }
  | _ => none }
def demandOrdersRow : OpenClaim := { program := "ytmppccnafhckoaa", sum := "1c9150f00739a8d4b651b6fa5fc37e7301da6a3286296002db0fe1b304eb2f56", func := "plenum/plenumlaw56.DemandOrders", spec := "demandOrders", inPlace := ["internal/bytealg.abigen_runtime_cmpstring"], unfollowed := true, recurses := true, apart := false }
def DemandOrdersSaid : Prop := demandOrdersRow.holds Try.pinned (OpenSpec.ofChange demandOrdersSpec)

/-- ITS FALSE NEIGHBOUR: 'it returns false'. Refute it at one input. -/
def demandOrdersWrong : ChangeSpec := { name := "demandOrders", fn := fun _ => fun
  | [d] => { results := [.lit (.bool false)], args := [d] }
  | _ => none }
def DemandOrdersWrongFalsely : Prop := demandOrdersRow.holds Try.pinned (OpenSpec.ofChange demandOrdersWrong)

/-- 'plenumlaw56.DemandForecasts': WHATEVER THE INPUT: true; the input reads as it did. -/
def demandForecastsSpec : ChangeSpec := { name := "demandForecasts", fn := fun _ => fun
  | [d1, d2, d3, d4, d5] => { results := [.lit (.bool true)], args := [d1, d2, d3, d4, d5] }
  | _ => none }
def demandForecastsRow : OpenClaim := { program := "ytmppccnafhckoaa", sum := "1c9150f00739a8d4b651b6fa5fc37e7301da6a3286296002db0fe1b304eb2f56", func := "plenum/plenumlaw56.DemandForecasts", spec := "demandForecasts", inPlace := ["internal/bytealg.abigen_runtime_cmpstring"], unfollowed := true, recurses := true, apart := false }
def DemandForecastsSaid : Prop := demandForecastsRow.holds Try.pinned (OpenSpec.ofChange demandForecastsSpec)

/-- ITS FALSE NEIGHBOUR: 'it returns false'. Refute it at one input. -/
def demandForecastsWrong : ChangeSpec := { name := "demandForecasts", fn := fun _ => fun
  | [d1, d2, d3, d4, d5] => { results := [.lit (.bool false)], args := [d1, d2, d3, d4, d5] }
  | _ => none }
def DemandForecastsWrongFalsely : Prop := demandForecastsRow.holds Try.pinned (OpenSpec.ofChange demandForecastsWrong)

/-- 'plenumlaw56.DemandSheds': WHATEVER THE INPUT: true; the input reads as it did. -/
def demandShedsSpec : ChangeSpec := { name := "demandSheds", fn := fun _ => fun
  | [d1, d2, d3, d4] => { results := [.lit (.bool true)], args := [d1, d2, d3, d4] }
  | _ => none }
def demandShedsRow : OpenClaim := { program := "ytmppccnafhckoaa", sum := "1c9150f00739a8d4b651b6fa5fc37e7301da6a3286296002db0fe1b304eb2f56", func := "plenum/plenumlaw56.DemandSheds", spec := "demandSheds", inPlace := ["internal/bytealg.abigen_runtime_cmpstring"], unfollowed := true, recurses := true, apart := false }
def DemandShedsSaid : Prop := demandShedsRow.holds Try.pinned (OpenSpec.ofChange demandShedsSpec)

/-- ITS FALSE NEIGHBOUR: 'it returns false'. Refute it at one input. -/
def demandShedsWrong : ChangeSpec := { name := "demandSheds", fn := fun _ => fun
  | [d1, d2, d3, d4] => { results := [.lit (.bool false)], args := [d1, d2, d3, d4] }
  | _ => none }
def DemandShedsWrongFalsely : Prop := demandShedsRow.holds Try.pinned (OpenSpec.ofChange demandShedsWrong)

/-- 'plenumlaw56.DemandLeast': WHATEVER THE INPUT: true; the input reads as it did. -/
def demandLeastSpec : ChangeSpec := { name := "demandLeast", fn := fun _ => fun
  | [d1, d2, d3] => { results := [.lit (.bool true)], args := [d1, d2, d3] }
  | _ => none }
def demandLeastRow : OpenClaim := { program := "ytmppccnafhckoaa", sum := "1c9150f00739a8d4b651b6fa5fc37e7301da6a3286296002db0fe1b304eb2f56", func := "plenum/plenumlaw56.DemandLeast", spec := "demandLeast", inPlace := ["internal/bytealg.abigen_runtime_cmpstring"], unfollowed := true, recurses := true, apart := false }
def DemandLeastSaid : Prop := demandLeastRow.holds Try.pinned (OpenSpec.ofChange demandLeastSpec)

/-- ITS FALSE NEIGHBOUR: 'it returns false'. Refute it at one input. -/
def demandLeastWrong : ChangeSpec := { name := "demandLeast", fn := fun _ => fun
  | [d1, d2, d3] => { results := [.lit (.bool false)], args := [d1, d2, d3] }
  | _ => none }
def DemandLeastWrongFalsely : Prop := demandLeastRow.holds Try.pinned (OpenSpec.ofChange demandLeastWrong)

/-- 'plenumlaw56.DemandKeeps': WHATEVER THE INPUT: true; the input reads as it did. -/
def demandKeepsSpec : ChangeSpec := { name := "demandKeeps", fn := fun _ => fun
  | [d1, d2, d3, d4, d5, d6] => { results := [.lit (.bool true)], args := [d1, d2, d3, d4, d5, d6] }
  | _ => none }
def demandKeepsRow : OpenClaim := { program := "ytmppccnafhckoaa", sum := "1c9150f00739a8d4b651b6fa5fc37e7301da6a3286296002db0fe1b304eb2f56", func := "plenum/plenumlaw56.DemandKeeps", spec := "demandKeeps", inPlace := ["internal/bytealg.abigen_runtime_cmpstring"], unfollowed := true, recurses := true, apart := false }
def DemandKeepsSaid : Prop := demandKeepsRow.holds Try.pinned (OpenSpec.ofChange demandKeepsSpec)

/-- ITS FALSE NEIGHBOUR: 'it returns false'. Refute it at one input. -/
def demandKeepsWrong : ChangeSpec := { name := "demandKeeps", fn := fun _ => fun
  | [d1, d2, d3, d4, d5, d6] => { results := [.lit (.bool false)], args := [d1, d2, d3, d4, d5, d6] }
  | _ => none }
def DemandKeepsWrongFalsely : Prop := demandKeepsRow.holds Try.pinned (OpenSpec.ofChange demandKeepsWrong)

/-- 'plenumlaw56.DemandPrefix': WHATEVER THE INPUT: true; the input reads as it did. -/
def demandPrefixSpec : ChangeSpec := { name := "demandPrefix", fn := fun _ => fun
  | [d1, d2, d3, d4] => { results := [.lit (.bool true)], args := [d1, d2, d3, d4] }
  | _ => none }
def demandPrefixRow : OpenClaim := { program := "ytmppccnafhckoaa", sum := "1c9150f00739a8d4b651b6fa5fc37e7301da6a3286296002db0fe1b304eb2f56", func := "plenum/plenumlaw56.DemandPrefix", spec := "demandPrefix", inPlace := ["internal/bytealg.abigen_runtime_cmpstring"], unfollowed := true, recurses := true, apart := false }
def DemandPrefixSaid : Prop := demandPrefixRow.holds Try.pinned (OpenSpec.ofChange demandPrefixSpec)

/-- ITS FALSE NEIGHBOUR: 'it returns false'. Refute it at one input. -/
def demandPrefixWrong : ChangeSpec := { name := "demandPrefix", fn := fun _ => fun
  | [d1, d2, d3, d4] => { results := [.lit (.bool false)], args := [d1, d2, d3, d4] }
  | _ => none }
def DemandPrefixWrongFalsely : Prop := demandPrefixRow.holds Try.pinned (OpenSpec.ofChange demandPrefixWrong)

/-- 'plenumlaw56.DemandSteps': WHATEVER THE INPUT: true; the input reads as it did. -/
def demandStepsSpec : ChangeSpec := { name := "demandSteps", fn := fun _ => fun
  | [d1, d2, d3, d4, d5] => { results := [.lit (.bool true)], args := [d1, d2, d3, d4, d5] }
  | _ => none }
def demandStepsRow : OpenClaim := { program := "ytmppccnafhckoaa", sum := "1c9150f00739a8d4b651b6fa5fc37e7301da6a3286296002db0fe1b304eb2f56", func := "plenum/plenumlaw56.DemandSteps", spec := "demandSteps", inPlace := ["internal/bytealg.abigen_runtime_cmpstring"], unfollowed := true, recurses := true, apart := false }
def DemandStepsSaid : Prop := demandStepsRow.holds Try.pinned (OpenSpec.ofChange demandStepsSpec)

/-- ITS FALSE NEIGHBOUR: 'it returns false'. Refute it at one input. -/
def demandStepsWrong : ChangeSpec := { name := "demandSteps", fn := fun _ => fun
  | [d1, d2, d3, d4, d5] => { results := [.lit (.bool false)], args := [d1, d2, d3, d4, d5] }
  | _ => none }
def DemandStepsWrongFalsely : Prop := demandStepsRow.holds Try.pinned (OpenSpec.ofChange demandStepsWrong)

/- THE SECOND FORM. 'bulk': how many values and letters a reading holds, each counted each time it is reached (what is shared counts as often as it is met; a slice's spare places count too). A statement '..UptoSaid' is the law's where the arguments, and the package variables that the reading takes, are together of bulk at most 1048576: NARROWER than '..Said'. Prove '..Said' where nothing that the law and all that it calls make is longer than what came in: it says more and counts as full. Else prove '..UptoSaid'. A law counts once. -/
mutual
def uptoBulk {H : Type} : DataW H → Nat
  | .lit (.string bytes) => bytes.length + 1
  | .lit _ => 1
  | .nil => 1
  | .ptr d => uptoBulk d + 1
  | .slice elems spare => uptoBulkAll elems + uptoBulkAll spare + 1
  | .agg parts => uptoBulkAll parts + 1
  | .iface _ d => uptoBulk d + 1
  | .map entries => uptoBulkEntries entries + 1
  | .held _ => 1
def uptoBulkAll {H : Type} : List (DataW H) → Nat
  | [] => 0
  | d :: r => uptoBulk d + uptoBulkAll r
def uptoBulkEntries {H : Type} : List (Lit × DataW H) → Nat
  | [] => 0
  | x :: r => uptoBulkEntry x + uptoBulkEntries r
def uptoBulkEntry {H : Type} : Lit × DataW H → Nat
  | (.string bytes, d) => bytes.length + uptoBulk d + 1
  | (_, d) => uptoBulk d + 1
 end
def uptoSmall : (H : Type) → List (DataW H) → Bool := fun _ ds => decide (uptoBulkAll ds ≤ 1048576)
def OpenSpec.upto (s : _root_.Go.ChangeSpec) : _root_.Go.OpenSpec := { _root_.Go.OpenSpec.ofChange s with cond := some uptoSmall }

/-- 'plenumlaw56.DemandOrders', WHERE WHAT IT READS IS OF BULK AT MOST 1048576: true; the input reads as it did. -/
def demandOrdersUptoRow : OpenClaim := { program := "ytmppccnafhckoaa", sum := "1c9150f00739a8d4b651b6fa5fc37e7301da6a3286296002db0fe1b304eb2f56", func := "plenum/plenumlaw56.DemandOrders", spec := "demandOrders", inPlace := ["internal/bytealg.abigen_runtime_cmpstring"], unfollowed := true, recurses := true, apart := false, narrowed := true }
def DemandOrdersUptoSaid : Prop := demandOrdersUptoRow.holds Try.pinned (OpenSpec.upto demandOrdersSpec)

/-- 'plenumlaw56.DemandForecasts', WHERE WHAT IT READS IS OF BULK AT MOST 1048576: true; the input reads as it did. -/
def demandForecastsUptoRow : OpenClaim := { program := "ytmppccnafhckoaa", sum := "1c9150f00739a8d4b651b6fa5fc37e7301da6a3286296002db0fe1b304eb2f56", func := "plenum/plenumlaw56.DemandForecasts", spec := "demandForecasts", inPlace := ["internal/bytealg.abigen_runtime_cmpstring"], unfollowed := true, recurses := true, apart := false, narrowed := true }
def DemandForecastsUptoSaid : Prop := demandForecastsUptoRow.holds Try.pinned (OpenSpec.upto demandForecastsSpec)

/-- 'plenumlaw56.DemandSheds', WHERE WHAT IT READS IS OF BULK AT MOST 1048576: true; the input reads as it did. -/
def demandShedsUptoRow : OpenClaim := { program := "ytmppccnafhckoaa", sum := "1c9150f00739a8d4b651b6fa5fc37e7301da6a3286296002db0fe1b304eb2f56", func := "plenum/plenumlaw56.DemandSheds", spec := "demandSheds", inPlace := ["internal/bytealg.abigen_runtime_cmpstring"], unfollowed := true, recurses := true, apart := false, narrowed := true }
def DemandShedsUptoSaid : Prop := demandShedsUptoRow.holds Try.pinned (OpenSpec.upto demandShedsSpec)

/-- 'plenumlaw56.DemandLeast', WHERE WHAT IT READS IS OF BULK AT MOST 1048576: true; the input reads as it did. -/
def demandLeastUptoRow : OpenClaim := { program := "ytmppccnafhckoaa", sum := "1c9150f00739a8d4b651b6fa5fc37e7301da6a3286296002db0fe1b304eb2f56", func := "plenum/plenumlaw56.DemandLeast", spec := "demandLeast", inPlace := ["internal/bytealg.abigen_runtime_cmpstring"], unfollowed := true, recurses := true, apart := false, narrowed := true }
def DemandLeastUptoSaid : Prop := demandLeastUptoRow.holds Try.pinned (OpenSpec.upto demandLeastSpec)

/-- 'plenumlaw56.DemandKeeps', WHERE WHAT IT READS IS OF BULK AT MOST 1048576: true; the input reads as it did. -/
def demandKeepsUptoRow : OpenClaim := { program := "ytmppccnafhckoaa", sum := "1c9150f00739a8d4b651b6fa5fc37e7301da6a3286296002db0fe1b304eb2f56", func := "plenum/plenumlaw56.DemandKeeps", spec := "demandKeeps", inPlace := ["internal/bytealg.abigen_runtime_cmpstring"], unfollowed := true, recurses := true, apart := false, narrowed := true }
def DemandKeepsUptoSaid : Prop := demandKeepsUptoRow.holds Try.pinned (OpenSpec.upto demandKeepsSpec)

/-- 'plenumlaw56.DemandPrefix', WHERE WHAT IT READS IS OF BULK AT MOST 1048576: true; the input reads as it did. -/
def demandPrefixUptoRow : OpenClaim := { program := "ytmppccnafhckoaa", sum := "1c9150f00739a8d4b651b6fa5fc37e7301da6a3286296002db0fe1b304eb2f56", func := "plenum/plenumlaw56.DemandPrefix", spec := "demandPrefix", inPlace := ["internal/bytealg.abigen_runtime_cmpstring"], unfollowed := true, recurses := true, apart := false, narrowed := true }
def DemandPrefixUptoSaid : Prop := demandPrefixUptoRow.holds Try.pinned (OpenSpec.upto demandPrefixSpec)

/-- 'plenumlaw56.DemandSteps', WHERE WHAT IT READS IS OF BULK AT MOST 1048576: true; the input reads as it did. -/
def demandStepsUptoRow : OpenClaim := { program := "ytmppccnafhckoaa", sum := "1c9150f00739a8d4b651b6fa5fc37e7301da6a3286296002db0fe1b304eb2f56", func := "plenum/plenumlaw56.DemandSteps", spec := "demandSteps", inPlace := ["internal/bytealg.abigen_runtime_cmpstring"], unfollowed := true, recurses := true, apart := false, narrowed := true }
def DemandStepsUptoSaid : Prop := demandStepsUptoRow.holds Try.pinned (OpenSpec.upto demandStepsSpec)

end Rows
end Go.Proofs.Ytmppccnafhckoaa
