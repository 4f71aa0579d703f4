/-
  NARROWER THAN 'FOR EVERY INPUT', by the rows' own cells (each row's printed sentence says how): InterlockLines: loops.
  DERIVED. THE GIVEN ROWS OF THIS SEAT. 7 by the template 'for every input the law returns true; each argument reads behind the call as it read before'; 0 by the template 'total and deterministic' (their statements: YtmgadjflgiokeaaTotals.lean).
  GIVEN WITH THE SEED: the statements are not yours to turn. If you find one false, say at which input.
  Laid BY PROGRAM, IN A SANDBOX (cutbox-rows.mjs): the forced cells as the released guide's own fill.sh prints them over the translation e585b7ed830fdbb5… (all of the seat's roots in one cut). By AI agents, Wed Nov 11 2026. No macro, syntax, notation, axiom, sorry.
-/
import Derived.Test.YtmgadjflgiokeaaChecked
import GoSem.Claim
import GoSem.ClaimJoined
import GoSem.ClaimMapViews
import Derived.JoinedTies
import Derived.KernelRfl
namespace Go.Proofs.Ytmgadjflgiokeaa
/- THE CELL 'sum', in the pinned program and in every row, IS THE sha256 OF THE DUMP (.gsa) THAT YtmgadjflgiokeaaProg.lean LOADS. Nothing in Lean hashes anything: it is a label: what it is worth is what the hold of that sum in a sandbox is worth. -/
noncomputable def Try.pinned : Pinned := { name := "ytmgadjflgiokeaa", sum := "e585b7ed830fdbb51cb97e389c24485914c831e2249fb2411916b27f92fe2992", checked := Try.checked }
namespace Rows
def none {H : Type} : Left H := { results := [], args := [] }

/-- 'plenumlaw15.InterlockSteps': WHATEVER THE INPUT: true; the input reads as it did. -/
def interlockStepsSpec : ChangeSpec := { name := "interlockSteps", fn := fun _ => fun
  | [d1, d2, d3, d4, d5] => { results := [.lit (.bool true)], args := [d1, d2, d3, d4, d5] }
  | _ => none }
def interlockStepsRow : OpenClaim := { program := "ytmgadjflgiokeaa", sum := "e585b7ed830fdbb51cb97e389c24485914c831e2249fb2411916b27f92fe2992", func := "plenum/plenumlaw15.InterlockSteps", spec := "interlockSteps", unfollowed := true, recurses := true, apart := false }
def InterlockStepsSaid : Prop := interlockStepsRow.holds Try.pinned (OpenSpec.ofChange interlockStepsSpec)

/-- ITS FALSE NEIGHBOUR: 'it returns false'. Refute it at one input. -/
def interlockStepsWrong : ChangeSpec := { name := "interlockSteps", fn := fun _ => fun
  | [d1, d2, d3, d4, d5] => { results := [.lit (.bool false)], args := [d1, d2, d3, d4, d5] }
  | _ => none }
def InterlockStepsWrongFalsely : Prop := interlockStepsRow.holds Try.pinned (OpenSpec.ofChange interlockStepsWrong)

/-- 'plenumlaw15.InterlockLines': WHATEVER THE INPUT: true; the input reads as it did. -/
def interlockLinesSpec : ChangeSpec := { name := "interlockLines", fn := fun _ => fun
  | [d1, d2] => { results := [.lit (.bool true)], args := [d1, d2] }
  | _ => none }
def interlockLinesRow : OpenClaim := { program := "ytmgadjflgiokeaa", sum := "e585b7ed830fdbb51cb97e389c24485914c831e2249fb2411916b27f92fe2992", func := "plenum/plenumlaw15.InterlockLines", spec := "interlockLines", unfollowed := true, recurses := true, loops := true, apart := false }
def InterlockLinesSaid : Prop := interlockLinesRow.holds Try.pinned (OpenSpec.ofChange interlockLinesSpec)

/-- ITS FALSE NEIGHBOUR: 'it returns false'. Refute it at one input. -/
def interlockLinesWrong : ChangeSpec := { name := "interlockLines", fn := fun _ => fun
  | [d1, d2] => { results := [.lit (.bool false)], args := [d1, d2] }
  | _ => none }
def InterlockLinesWrongFalsely : Prop := interlockLinesRow.holds Try.pinned (OpenSpec.ofChange interlockLinesWrong)

/-- 'plenumlaw15.InterlockUrgent': WHATEVER THE INPUT: true; the input reads as it did. -/
def interlockUrgentSpec : ChangeSpec := { name := "interlockUrgent", fn := fun _ => fun
  | [d1, d2, d3, d4, d5] => { results := [.lit (.bool true)], args := [d1, d2, d3, d4, d5] }
  | _ => none }
def interlockUrgentRow : OpenClaim := { program := "ytmgadjflgiokeaa", sum := "e585b7ed830fdbb51cb97e389c24485914c831e2249fb2411916b27f92fe2992", func := "plenum/plenumlaw15.InterlockUrgent", spec := "interlockUrgent", unfollowed := true, recurses := true, apart := false }
def InterlockUrgentSaid : Prop := interlockUrgentRow.holds Try.pinned (OpenSpec.ofChange interlockUrgentSpec)

/-- ITS FALSE NEIGHBOUR: 'it returns false'. Refute it at one input. -/
def interlockUrgentWrong : ChangeSpec := { name := "interlockUrgent", fn := fun _ => fun
  | [d1, d2, d3, d4, d5] => { results := [.lit (.bool false)], args := [d1, d2, d3, d4, d5] }
  | _ => none }
def InterlockUrgentWrongFalsely : Prop := interlockUrgentRow.holds Try.pinned (OpenSpec.ofChange interlockUrgentWrong)

/-- 'plenumlaw15.InterlockWaits': WHATEVER THE INPUT: true; the input reads as it did. -/
def interlockWaitsSpec : ChangeSpec := { name := "interlockWaits", fn := fun _ => fun
  | [d1, d2, d3, d4, d5] => { results := [.lit (.bool true)], args := [d1, d2, d3, d4, d5] }
  | _ => none }
def interlockWaitsRow : OpenClaim := { program := "ytmgadjflgiokeaa", sum := "e585b7ed830fdbb51cb97e389c24485914c831e2249fb2411916b27f92fe2992", func := "plenum/plenumlaw15.InterlockWaits", spec := "interlockWaits", unfollowed := true, recurses := true, apart := false }
def InterlockWaitsSaid : Prop := interlockWaitsRow.holds Try.pinned (OpenSpec.ofChange interlockWaitsSpec)

/-- ITS FALSE NEIGHBOUR: 'it returns false'. Refute it at one input. -/
def interlockWaitsWrong : ChangeSpec := { name := "interlockWaits", fn := fun _ => fun
  | [d1, d2, d3, d4, d5] => { results := [.lit (.bool false)], args := [d1, d2, d3, d4, d5] }
  | _ => none }
def InterlockWaitsWrongFalsely : Prop := interlockWaitsRow.holds Try.pinned (OpenSpec.ofChange interlockWaitsWrong)

/-- 'plenumlaw15.InterlockBreaks': WHATEVER THE INPUT: true; the input reads as it did. -/
def interlockBreaksSpec : ChangeSpec := { name := "interlockBreaks", fn := fun _ => fun
  | [d1, d2] => { results := [.lit (.bool true)], args := [d1, d2] }
  | _ => none }
def interlockBreaksRow : OpenClaim := { program := "ytmgadjflgiokeaa", sum := "e585b7ed830fdbb51cb97e389c24485914c831e2249fb2411916b27f92fe2992", func := "plenum/plenumlaw15.InterlockBreaks", spec := "interlockBreaks", unfollowed := true, recurses := true, apart := false }
def InterlockBreaksSaid : Prop := interlockBreaksRow.holds Try.pinned (OpenSpec.ofChange interlockBreaksSpec)

/-- ITS FALSE NEIGHBOUR: 'it returns false'. Refute it at one input. -/
def interlockBreaksWrong : ChangeSpec := { name := "interlockBreaks", fn := fun _ => fun
  | [d1, d2] => { results := [.lit (.bool false)], args := [d1, d2] }
  | _ => none }
def InterlockBreaksWrongFalsely : Prop := interlockBreaksRow.holds Try.pinned (OpenSpec.ofChange interlockBreaksWrong)

/-- 'plenumlaw15.InterlockRuns': WHATEVER THE INPUT: true; the input reads as it did. -/
def interlockRunsSpec : ChangeSpec := { name := "interlockRuns", fn := fun _ => fun
  | [d1, d2, d3] => { results := [.lit (.bool true)], args := [d1, d2, d3] }
  | _ => none }
def interlockRunsRow : OpenClaim := { program := "ytmgadjflgiokeaa", sum := "e585b7ed830fdbb51cb97e389c24485914c831e2249fb2411916b27f92fe2992", func := "plenum/plenumlaw15.InterlockRuns", spec := "interlockRuns", unfollowed := true, recurses := true, apart := false }
def InterlockRunsSaid : Prop := interlockRunsRow.holds Try.pinned (OpenSpec.ofChange interlockRunsSpec)

/-- ITS FALSE NEIGHBOUR: 'it returns false'. Refute it at one input. -/
def interlockRunsWrong : ChangeSpec := { name := "interlockRuns", fn := fun _ => fun
  | [d1, d2, d3] => { results := [.lit (.bool false)], args := [d1, d2, d3] }
  | _ => none }
def InterlockRunsWrongFalsely : Prop := interlockRunsRow.holds Try.pinned (OpenSpec.ofChange interlockRunsWrong)

/-- 'plenumlaw15.InterlockChecks': WHATEVER THE INPUT: true; the input reads as it did. -/
def interlockChecksSpec : ChangeSpec := { name := "interlockChecks", fn := fun _ => fun
  | [d1, d2, d3] => { results := [.lit (.bool true)], args := [d1, d2, d3] }
  | _ => none }
def interlockChecksRow : OpenClaim := { program := "ytmgadjflgiokeaa", sum := "e585b7ed830fdbb51cb97e389c24485914c831e2249fb2411916b27f92fe2992", func := "plenum/plenumlaw15.InterlockChecks", spec := "interlockChecks", unfollowed := true, recurses := true, apart := false }
def InterlockChecksSaid : Prop := interlockChecksRow.holds Try.pinned (OpenSpec.ofChange interlockChecksSpec)

/-- ITS FALSE NEIGHBOUR: 'it returns false'. Refute it at one input. -/
def interlockChecksWrong : ChangeSpec := { name := "interlockChecks", fn := fun _ => fun
  | [d1, d2, d3] => { results := [.lit (.bool false)], args := [d1, d2, d3] }
  | _ => none }
def InterlockChecksWrongFalsely : Prop := interlockChecksRow.holds Try.pinned (OpenSpec.ofChange interlockChecksWrong)

/- THE SECOND FORM. 'bulk': how many values and letters a reading holds, each counted each time it is reached (what is shared counts as often as it is met; a slice's spare places count too). A statement '..UptoSaid' is the law's where the arguments, and the package variables that the reading takes, are together of bulk at most 1048576: NARROWER than '..Said'. Prove '..Said' where nothing that the law and all that it calls make is longer than what came in: it says more and counts as full. Else prove '..UptoSaid'. A law counts once. -/
mutual
def uptoBulk {H : Type} : DataW H → Nat
  | .lit (.string bytes) => bytes.length + 1
  | .lit _ => 1
  | .nil => 1
  | .ptr d => uptoBulk d + 1
  | .slice elems spare => uptoBulkAll elems + uptoBulkAll spare + 1
  | .agg parts => uptoBulkAll parts + 1
  | .iface _ d => uptoBulk d + 1
  | .map entries => uptoBulkEntries entries + 1
  | .held _ => 1
def uptoBulkAll {H : Type} : List (DataW H) → Nat
  | [] => 0
  | d :: r => uptoBulk d + uptoBulkAll r
def uptoBulkEntries {H : Type} : List (Lit × DataW H) → Nat
  | [] => 0
  | x :: r => uptoBulkEntry x + uptoBulkEntries r
def uptoBulkEntry {H : Type} : Lit × DataW H → Nat
  | (.string bytes, d) => bytes.length + uptoBulk d + 1
  | (_, d) => uptoBulk d + 1
 end
def uptoSmall : (H : Type) → List (DataW H) → Bool := fun _ ds => decide (uptoBulkAll ds ≤ 1048576)
def OpenSpec.upto (s : _root_.Go.ChangeSpec) : _root_.Go.OpenSpec := { _root_.Go.OpenSpec.ofChange s with cond := some uptoSmall }

/-- 'plenumlaw15.InterlockSteps', WHERE WHAT IT READS IS OF BULK AT MOST 1048576: true; the input reads as it did. -/
def interlockStepsUptoRow : OpenClaim := { program := "ytmgadjflgiokeaa", sum := "e585b7ed830fdbb51cb97e389c24485914c831e2249fb2411916b27f92fe2992", func := "plenum/plenumlaw15.InterlockSteps", spec := "interlockSteps", unfollowed := true, recurses := true, apart := false, narrowed := true }
def InterlockStepsUptoSaid : Prop := interlockStepsUptoRow.holds Try.pinned (OpenSpec.upto interlockStepsSpec)

/-- 'plenumlaw15.InterlockLines', WHERE WHAT IT READS IS OF BULK AT MOST 1048576: true; the input reads as it did. -/
def interlockLinesUptoRow : OpenClaim := { program := "ytmgadjflgiokeaa", sum := "e585b7ed830fdbb51cb97e389c24485914c831e2249fb2411916b27f92fe2992", func := "plenum/plenumlaw15.InterlockLines", spec := "interlockLines", unfollowed := true, recurses := true, loops := true, apart := false, narrowed := true }
def InterlockLinesUptoSaid : Prop := interlockLinesUptoRow.holds Try.pinned (OpenSpec.upto interlockLinesSpec)

/-- 'plenumlaw15.InterlockUrgent', WHERE WHAT IT READS IS OF BULK AT MOST 1048576: true; the input reads as it did. -/
def interlockUrgentUptoRow : OpenClaim := { program := "ytmgadjflgiokeaa", sum := "e585b7ed830fdbb51cb97e389c24485914c831e2249fb2411916b27f92fe2992", func := "plenum/plenumlaw15.InterlockUrgent", spec := "interlockUrgent", unfollowed := true, recurses := true, apart := false, narrowed := true }
def InterlockUrgentUptoSaid : Prop := interlockUrgentUptoRow.holds Try.pinned (OpenSpec.upto interlockUrgentSpec)

/-- 'plenumlaw15.InterlockWaits', WHERE WHAT IT READS IS OF BULK AT MOST 1048576: true; the input reads as it did. -/
def interlockWaitsUptoRow : OpenClaim := { program := "ytmgadjflgiokeaa", sum := "e585b7ed830fdbb51cb97e389c24485914c831e2249fb2411916b27f92fe2992", func := "plenum/plenumlaw15.InterlockWaits", spec := "interlockWaits", unfollowed := true, recurses := true, apart := false, narrowed := true }
def InterlockWaitsUptoSaid : Prop := interlockWaitsUptoRow.holds Try.pinned (OpenSpec.upto interlockWaitsSpec)

/-- 'plenumlaw15.InterlockBreaks', WHERE WHAT IT READS IS OF BULK AT MOST 1048576: true; the input reads as it did. -/
def interlockBreaksUptoRow : OpenClaim := { program := "ytmgadjflgiokeaa", sum := "e585b7ed830fdbb51cb97e389c24485914c831e2249fb2411916b27f92fe2992", func := "plenum/plenumlaw15.InterlockBreaks", spec := "interlockBreaks", unfollowed := true, recurses := true, apart := false, narrowed := true }
def InterlockBreaksUptoSaid : Prop := interlockBreaksUptoRow.holds Try.pinned (OpenSpec.upto interlockBreaksSpec)

/-- 'plenumlaw15.InterlockRuns', WHERE WHAT IT READS IS OF BULK AT MOST 1048576: true; the input reads as it did. -/
def interlockRunsUptoRow : OpenClaim := { program := "ytmgadjflgiokeaa", sum := "e585b7ed830fdbb51cb97e389c24485914c831e2249fb2411916b27f92fe2992", func := "plenum/plenumlaw15.InterlockRuns", spec := "interlockRuns", unfollowed := true, recurses := true, apart := false, narrowed := true }
def InterlockRunsUptoSaid : Prop := interlockRunsUptoRow.holds Try.pinned (OpenSpec.upto interlockRunsSpec)

/-- 'plenumlaw15.InterlockChecks', WHERE WHAT IT READS IS OF BULK AT MOST 1048576: true; the input reads as it did. -/
def interlockChecksUptoRow : OpenClaim := { program := "ytmgadjflgiokeaa", sum := "e585b7ed830fdbb51cb97e389c24485914c831e2249fb2411916b27f92fe2992", func := "plenum/plenumlaw15.InterlockChecks", spec := "interlockChecks", unfollowed := true, recurses := true, apart := false, narrowed := true }
def InterlockChecksUptoSaid : Prop := interlockChecksUptoRow.holds Try.pinned (OpenSpec.upto interlockChecksSpec)

end Rows
end Go.Proofs.Ytmgadjflgiokeaa
