/-
  No cell of these rows narrows 'for every input' (looked for: loops, veiled, ifaces, maps, wideKeys, modest, calm, conditions, laid).
  DERIVED. THE GIVEN ROWS OF THIS SEAT. 6 by the template 'for every input the law returns true; each argument reads behind the call as it read before'; 0 by the template 'total and deterministic' (their statements: YtfeclhjbkphjdaaTotals.lean).
  GIVEN WITH THE SEED: the statements are not yours to turn. If you find one false, say at which input.
  Laid BY PROGRAM, IN A SANDBOX (cutbox-rows.mjs): the forced cells as the released guide's own fill.sh prints them over the translation 8a24ce321243672e… (all of the seat's roots in one cut). By AI agents, Wed Nov 11 2026. No macro, syntax, notation, axiom, sorry.
-/
import Derived.Test.YtfeclhjbkphjdaaChecked
import GoSem.Claim
import GoSem.ClaimJoined
import GoSem.ClaimMapViews
import Derived.JoinedTies
import Derived.KernelRfl
namespace Go.Proofs.Ytfeclhjbkphjdaa
/- THE CELL 'sum', in the pinned program and in every row, IS THE sha256 OF THE DUMP (.gsa) THAT YtfeclhjbkphjdaaProg.lean LOADS. Nothing in Lean hashes anything: it is a label: what it is worth is what the hold of that sum in a sandbox is worth. -/
noncomputable def Try.pinned : Pinned := { name := "ytfeclhjbkphjdaa", sum := "8a24ce321243672ec4fe62dfad41ece2aaf82e7283fd0a488571c40373e9d7d6", checked := Try.checked }
namespace Rows
def none {H : Type} : Left H := { results := [], args := [] }

/-- 'plenumlaw50.ConfirmServers': WHATEVER THE INPUT: true; the input reads as it did. -/
def confirmServersSpec : ChangeSpec := { name := "confirmServers", fn := fun _ => fun
  | [d1, d2, d3] => { results := [.lit (.bool true)], args := [d1, d2, d3] }
  | _ => none }
def confirmServersRow : OpenClaim := { program := "ytfeclhjbkphjdaa", sum := "8a24ce321243672ec4fe62dfad41ece2aaf82e7283fd0a488571c40373e9d7d6", func := "plenum/plenumlaw50.ConfirmServers", spec := "confirmServers", unfollowed := true, recurses := true, plainKeys := false, apart := false }
def ConfirmServersSaid : Prop := confirmServersRow.holds Try.pinned (OpenSpec.ofChange confirmServersSpec)

/-- ITS FALSE NEIGHBOUR: 'it returns false'. Refute it at one input. -/
def confirmServersWrong : ChangeSpec := { name := "confirmServers", fn := fun _ => fun
  | [d1, d2, d3] => { results := [.lit (.bool false)], args := [d1, d2, d3] }
  | _ => none }
def ConfirmServersWrongFalsely : Prop := confirmServersRow.holds Try.pinned (OpenSpec.ofChange confirmServersWrong)

/-- 'plenumlaw50.ConfirmOnce': WHATEVER THE INPUT: true; the input reads as it did. -/
def confirmOnceSpec : ChangeSpec := { name := "confirmOnce", fn := fun _ => fun
  | [d1, d2, d3] => { results := [.lit (.bool true)], args := [d1, d2, d3] }
  | _ => none }
def confirmOnceRow : OpenClaim := { program := "ytfeclhjbkphjdaa", sum := "8a24ce321243672ec4fe62dfad41ece2aaf82e7283fd0a488571c40373e9d7d6", func := "plenum/plenumlaw50.ConfirmOnce", spec := "confirmOnce", unfollowed := true, recurses := true, plainKeys := false, apart := false }
def ConfirmOnceSaid : Prop := confirmOnceRow.holds Try.pinned (OpenSpec.ofChange confirmOnceSpec)

/-- ITS FALSE NEIGHBOUR: 'it returns false'. Refute it at one input. -/
def confirmOnceWrong : ChangeSpec := { name := "confirmOnce", fn := fun _ => fun
  | [d1, d2, d3] => { results := [.lit (.bool false)], args := [d1, d2, d3] }
  | _ => none }
def ConfirmOnceWrongFalsely : Prop := confirmOnceRow.holds Try.pinned (OpenSpec.ofChange confirmOnceWrong)

/-- 'plenumlaw50.ConfirmClients': WHATEVER THE INPUT: true; the input reads as it did. -/
def confirmClientsSpec : ChangeSpec := { name := "confirmClients", fn := fun _ => fun
  | [d1, d2, d3] => { results := [.lit (.bool true)], args := [d1, d2, d3] }
  | _ => none }
def confirmClientsRow : OpenClaim := { program := "ytfeclhjbkphjdaa", sum := "8a24ce321243672ec4fe62dfad41ece2aaf82e7283fd0a488571c40373e9d7d6", func := "plenum/plenumlaw50.ConfirmClients", spec := "confirmClients", unfollowed := true, recurses := true, plainKeys := false, apart := false }
def ConfirmClientsSaid : Prop := confirmClientsRow.holds Try.pinned (OpenSpec.ofChange confirmClientsSpec)

/-- ITS FALSE NEIGHBOUR: 'it returns false'. Refute it at one input. -/
def confirmClientsWrong : ChangeSpec := { name := "confirmClients", fn := fun _ => fun
  | [d1, d2, d3] => { results := [.lit (.bool false)], args := [d1, d2, d3] }
  | _ => none }
def ConfirmClientsWrongFalsely : Prop := confirmClientsRow.holds Try.pinned (OpenSpec.ofChange confirmClientsWrong)

/-- 'plenumlaw50.ConfirmTrue': WHATEVER THE INPUT: true; the input reads as it did. -/
def confirmTrueSpec : ChangeSpec := { name := "confirmTrue", fn := fun _ => fun
  | [d1, d2, d3] => { results := [.lit (.bool true)], args := [d1, d2, d3] }
  | _ => none }
def confirmTrueRow : OpenClaim := { program := "ytfeclhjbkphjdaa", sum := "8a24ce321243672ec4fe62dfad41ece2aaf82e7283fd0a488571c40373e9d7d6", func := "plenum/plenumlaw50.ConfirmTrue", spec := "confirmTrue", unfollowed := true, recurses := true, plainKeys := false, apart := false }
def ConfirmTrueSaid : Prop := confirmTrueRow.holds Try.pinned (OpenSpec.ofChange confirmTrueSpec)

/-- ITS FALSE NEIGHBOUR: 'it returns false'. Refute it at one input. -/
def confirmTrueWrong : ChangeSpec := { name := "confirmTrue", fn := fun _ => fun
  | [d1, d2, d3] => { results := [.lit (.bool false)], args := [d1, d2, d3] }
  | _ => none }
def ConfirmTrueWrongFalsely : Prop := confirmTrueRow.holds Try.pinned (OpenSpec.ofChange confirmTrueWrong)

/-- 'plenumlaw50.ConfirmCalm': WHATEVER THE INPUT: true; the input reads as it did. -/
def confirmCalmSpec : ChangeSpec := { name := "confirmCalm", fn := fun _ => fun
  | [d] => { results := [.lit (.bool true)], args := [d] }
  | _ => none }
def confirmCalmRow : OpenClaim := { program := "ytfeclhjbkphjdaa", sum := "8a24ce321243672ec4fe62dfad41ece2aaf82e7283fd0a488571c40373e9d7d6", func := "plenum/plenumlaw50.ConfirmCalm", spec := "confirmCalm", unfollowed := true, recurses := true, plainKeys := false, apart := false }
def ConfirmCalmSaid : Prop := confirmCalmRow.holds Try.pinned (OpenSpec.ofChange confirmCalmSpec)

/-- ITS FALSE NEIGHBOUR: 'it returns false'. Refute it at one input. -/
def confirmCalmWrong : ChangeSpec := { name := "confirmCalm", fn := fun _ => fun
  | [d] => { results := [.lit (.bool false)], args := [d] }
  | _ => none }
def ConfirmCalmWrongFalsely : Prop := confirmCalmRow.holds Try.pinned (OpenSpec.ofChange confirmCalmWrong)

/-- 'plenumlaw50.ConfirmEnds': WHATEVER THE INPUT: true; the input reads as it did. -/
def confirmEndsSpec : ChangeSpec := { name := "confirmEnds", fn := fun _ => fun
  | [d1, d2, d3] => { results := [.lit (.bool true)], args := [d1, d2, d3] }
  | _ => none }
def confirmEndsRow : OpenClaim := { program := "ytfeclhjbkphjdaa", sum := "8a24ce321243672ec4fe62dfad41ece2aaf82e7283fd0a488571c40373e9d7d6", func := "plenum/plenumlaw50.ConfirmEnds", spec := "confirmEnds", unfollowed := true, recurses := true, plainKeys := false, apart := false }
def ConfirmEndsSaid : Prop := confirmEndsRow.holds Try.pinned (OpenSpec.ofChange confirmEndsSpec)

/-- ITS FALSE NEIGHBOUR: 'it returns false'. Refute it at one input. -/
def confirmEndsWrong : ChangeSpec := { name := "confirmEnds", fn := fun _ => fun
  | [d1, d2, d3] => { results := [.lit (.bool false)], args := [d1, d2, d3] }
  | _ => none }
def ConfirmEndsWrongFalsely : Prop := confirmEndsRow.holds Try.pinned (OpenSpec.ofChange confirmEndsWrong)

/- THE SECOND FORM. 'bulk': how many values and letters a reading holds, each counted each time it is reached (what is shared counts as often as it is met; a slice's spare places count too). A statement '..UptoSaid' is the law's where the arguments, and the package variables that the reading takes, are together of bulk at most 1048576: NARROWER than '..Said'. Prove '..Said' where nothing that the law and all that it calls make is longer than what came in: it says more and counts as full. Else prove '..UptoSaid'. A law counts once. -/
mutual
def uptoBulk {H : Type} : DataW H → Nat
  | .lit (.string bytes) => bytes.length + 1
  | .lit _ => 1
  | .nil => 1
  | .ptr d => uptoBulk d + 1
  | .slice elems spare => uptoBulkAll elems + uptoBulkAll spare + 1
  | .agg parts => uptoBulkAll parts + 1
  | .iface _ d => uptoBulk d + 1
  | .map entries => uptoBulkEntries entries + 1
  | .held _ => 1
def uptoBulkAll {H : Type} : List (DataW H) → Nat
  | [] => 0
  | d :: r => uptoBulk d + uptoBulkAll r
def uptoBulkEntries {H : Type} : List (Lit × DataW H) → Nat
  | [] => 0
  | x :: r => uptoBulkEntry x + uptoBulkEntries r
def uptoBulkEntry {H : Type} : Lit × DataW H → Nat
  | (.string bytes, d) => bytes.length + uptoBulk d + 1
  | (_, d) => uptoBulk d + 1
 end
def uptoSmall : (H : Type) → List (DataW H) → Bool := fun _ ds => decide (uptoBulkAll ds ≤ 1048576)
def OpenSpec.upto (s : _root_.Go.ChangeSpec) : _root_.Go.OpenSpec := { _root_.Go.OpenSpec.ofChange s with cond := some uptoSmall }

/-- 'plenumlaw50.ConfirmServers', WHERE WHAT IT READS IS OF BULK AT MOST 1048576: true; the input reads as it did. -/
def confirmServersUptoRow : OpenClaim := { program := "ytfeclhjbkphjdaa", sum := "8a24ce321243672ec4fe62dfad41ece2aaf82e7283fd0a488571c40373e9d7d6", func := "plenum/plenumlaw50.ConfirmServers", spec := "confirmServers", unfollowed := true, recurses := true, plainKeys := false, apart := false, narrowed := true }
def ConfirmServersUptoSaid : Prop := confirmServersUptoRow.holds Try.pinned (OpenSpec.upto confirmServersSpec)

/-- 'plenumlaw50.ConfirmOnce', WHERE WHAT IT READS IS OF BULK AT MOST 1048576: true; the input reads as it did. -/
def confirmOnceUptoRow : OpenClaim := { program := "ytfeclhjbkphjdaa", sum := "8a24ce321243672ec4fe62dfad41ece2aaf82e7283fd0a488571c40373e9d7d6", func := "plenum/plenumlaw50.ConfirmOnce", spec := "confirmOnce", unfollowed := true, recurses := true, plainKeys := false, apart := false, narrowed := true }
def ConfirmOnceUptoSaid : Prop := confirmOnceUptoRow.holds Try.pinned (OpenSpec.upto confirmOnceSpec)

/-- 'plenumlaw50.ConfirmClients', WHERE WHAT IT READS IS OF BULK AT MOST 1048576: true; the input reads as it did. -/
def confirmClientsUptoRow : OpenClaim := { program := "ytfeclhjbkphjdaa", sum := "8a24ce321243672ec4fe62dfad41ece2aaf82e7283fd0a488571c40373e9d7d6", func := "plenum/plenumlaw50.ConfirmClients", spec := "confirmClients", unfollowed := true, recurses := true, plainKeys := false, apart := false, narrowed := true }
def ConfirmClientsUptoSaid : Prop := confirmClientsUptoRow.holds Try.pinned (OpenSpec.upto confirmClientsSpec)

/-- 'plenumlaw50.ConfirmTrue', WHERE WHAT IT READS IS OF BULK AT MOST 1048576: true; the input reads as it did. -/
def confirmTrueUptoRow : OpenClaim := { program := "ytfeclhjbkphjdaa", sum := "8a24ce321243672ec4fe62dfad41ece2aaf82e7283fd0a488571c40373e9d7d6", func := "plenum/plenumlaw50.ConfirmTrue", spec := "confirmTrue", unfollowed := true, recurses := true, plainKeys := false, apart := false, narrowed := true }
def ConfirmTrueUptoSaid : Prop := confirmTrueUptoRow.holds Try.pinned (OpenSpec.upto confirmTrueSpec)

/-- 'plenumlaw50.ConfirmCalm', WHERE WHAT IT READS IS OF BULK AT MOST 1048576: true; the input reads as it did. -/
def confirmCalmUptoRow : OpenClaim := { program := "ytfeclhjbkphjdaa", sum := "8a24ce321243672ec4fe62dfad41ece2aaf82e7283fd0a488571c40373e9d7d6", func := "plenum/plenumlaw50.ConfirmCalm", spec := "confirmCalm", unfollowed := true, recurses := true, plainKeys := false, apart := false, narrowed := true }
def ConfirmCalmUptoSaid : Prop := confirmCalmUptoRow.holds Try.pinned (OpenSpec.upto confirmCalmSpec)

/-- 'plenumlaw50.ConfirmEnds', WHERE WHAT IT READS IS OF BULK AT MOST 1048576: true; the input reads as it did. -/
def confirmEndsUptoRow : OpenClaim := { program := "ytfeclhjbkphjdaa", sum := "8a24ce321243672ec4fe62dfad41ece2aaf82e7283fd0a488571c40373e9d7d6", func := "plenum/plenumlaw50.ConfirmEnds", spec := "confirmEnds", unfollowed := true, recurses := true, plainKeys := false, apart := false, narrowed := true }
def ConfirmEndsUptoSaid : Prop := confirmEndsUptoRow.holds Try.pinned (OpenSpec.upto confirmEndsSpec)

end Rows
end Go.Proofs.Ytfeclhjbkphjdaa
