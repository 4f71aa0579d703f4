/-
  No cell of these rows narrows 'for every input' (looked for: loops, veiled, ifaces, maps, wideKeys, modest, calm, conditions, laid).
  DERIVED. THE GIVEN ROWS OF THIS SEAT. 7 by the template 'for every input the law returns true; each argument reads behind the call as it read before'; 0 by the template 'total and deterministic' (their statements: YtlcngkigfcacmaaTotals.lean).
  GIVEN WITH THE SEED: the statements are not yours to turn. If you find one false, say at which input.
  Laid BY PROGRAM, IN A SANDBOX (cutbox-rows.mjs): the forced cells as the released guide's own fill.sh prints them over the translation c63495a874dcdd51… (all of the seat's roots in one cut). By AI agents, Wed Nov 11 2026. No macro, syntax, notation, axiom, sorry.
-/
import Derived.Test.YtlcngkigfcacmaaChecked
import GoSem.Claim
import GoSem.ClaimJoined
import GoSem.ClaimMapViews
import Derived.JoinedTies
import Derived.KernelRfl
namespace Go.Proofs.Ytlcngkigfcacmaa
/- THE CELL 'sum', in the pinned program and in every row, IS THE sha256 OF THE DUMP (.gsa) THAT YtlcngkigfcacmaaProg.lean LOADS. Nothing in Lean hashes anything: it is a label: what it is worth is what the hold of that sum in a sandbox is worth. -/
noncomputable def Try.pinned : Pinned := { name := "ytlcngkigfcacmaa", sum := "c63495a874dcdd517fb726048064bbf156c537ee5fa6817995f0bee449fde2d2", checked := Try.checked }
namespace Rows
def none {H : Type} : Left H := { results := [], args := [] }

/-- 'plenumlaw34.OverridePieces': WHATEVER THE INPUT: true; the input reads as it did. -/
def overridePiecesSpec : ChangeSpec := { name := "overridePieces", fn := fun _ => fun
  | [d1, d2, d3] => { results := [.lit (.bool true)], args := [d1, d2, d3] }
  | _ => none }
def overridePiecesRow : OpenClaim := { program := "ytlcngkigfcacmaa", sum := "c63495a874dcdd517fb726048064bbf156c537ee5fa6817995f0bee449fde2d2", func := "plenum/plenumlaw34.OverridePieces", spec := "overridePieces", unfollowed := true, recurses := true, apart := false }
def OverridePiecesSaid : Prop := overridePiecesRow.holds Try.pinned (OpenSpec.ofChange overridePiecesSpec)

/-- ITS FALSE NEIGHBOUR: 'it returns false'. Refute it at one input. -/
def overridePiecesWrong : ChangeSpec := { name := "overridePieces", fn := fun _ => fun
  | [d1, d2, d3] => { results := [.lit (.bool false)], args := [d1, d2, d3] }
  | _ => none }
def OverridePiecesWrongFalsely : Prop := overridePiecesRow.holds Try.pinned (OpenSpec.ofChange overridePiecesWrong)

/-- 'plenumlaw34.OverrideCovers': WHATEVER THE INPUT: true; the input reads as it did. -/
def overrideCoversSpec : ChangeSpec := { name := "overrideCovers", fn := fun _ => fun
  | [d1, d2, d3, d4] => { results := [.lit (.bool true)], args := [d1, d2, d3, d4] }
  | _ => none }
def overrideCoversRow : OpenClaim := { program := "ytlcngkigfcacmaa", sum := "c63495a874dcdd517fb726048064bbf156c537ee5fa6817995f0bee449fde2d2", func := "plenum/plenumlaw34.OverrideCovers", spec := "overrideCovers", unfollowed := true, recurses := true, apart := false }
def OverrideCoversSaid : Prop := overrideCoversRow.holds Try.pinned (OpenSpec.ofChange overrideCoversSpec)

/-- ITS FALSE NEIGHBOUR: 'it returns false'. Refute it at one input. -/
def overrideCoversWrong : ChangeSpec := { name := "overrideCovers", fn := fun _ => fun
  | [d1, d2, d3, d4] => { results := [.lit (.bool false)], args := [d1, d2, d3, d4] }
  | _ => none }
def OverrideCoversWrongFalsely : Prop := overrideCoversRow.holds Try.pinned (OpenSpec.ofChange overrideCoversWrong)

/-- 'plenumlaw34.OverrideGoverns': WHATEVER THE INPUT: true; the input reads as it did. -/
def overrideGovernsSpec : ChangeSpec := { name := "overrideGoverns", fn := fun _ => fun
  | [d1, d2, d3] => { results := [.lit (.bool true)], args := [d1, d2, d3] }
  | _ => none }
def overrideGovernsRow : OpenClaim := { program := "ytlcngkigfcacmaa", sum := "c63495a874dcdd517fb726048064bbf156c537ee5fa6817995f0bee449fde2d2", func := "plenum/plenumlaw34.OverrideGoverns", spec := "overrideGoverns", unfollowed := true, recurses := true, apart := false }
def OverrideGovernsSaid : Prop := overrideGovernsRow.holds Try.pinned (OpenSpec.ofChange overrideGovernsSpec)

/-- ITS FALSE NEIGHBOUR: 'it returns false'. Refute it at one input. -/
def overrideGovernsWrong : ChangeSpec := { name := "overrideGoverns", fn := fun _ => fun
  | [d1, d2, d3] => { results := [.lit (.bool false)], args := [d1, d2, d3] }
  | _ => none }
def OverrideGovernsWrongFalsely : Prop := overrideGovernsRow.holds Try.pinned (OpenSpec.ofChange overrideGovernsWrong)

/-- 'plenumlaw34.OverrideExpires': WHATEVER THE INPUT: true; the input reads as it did. -/
def overrideExpiresSpec : ChangeSpec := { name := "overrideExpires", fn := fun _ => fun
  | [d1, d2, d3, d4] => { results := [.lit (.bool true)], args := [d1, d2, d3, d4] }
  | _ => none }
def overrideExpiresRow : OpenClaim := { program := "ytlcngkigfcacmaa", sum := "c63495a874dcdd517fb726048064bbf156c537ee5fa6817995f0bee449fde2d2", func := "plenum/plenumlaw34.OverrideExpires", spec := "overrideExpires", unfollowed := true, recurses := true, apart := false }
def OverrideExpiresSaid : Prop := overrideExpiresRow.holds Try.pinned (OpenSpec.ofChange overrideExpiresSpec)

/-- ITS FALSE NEIGHBOUR: 'it returns false'. Refute it at one input. -/
def overrideExpiresWrong : ChangeSpec := { name := "overrideExpires", fn := fun _ => fun
  | [d1, d2, d3, d4] => { results := [.lit (.bool false)], args := [d1, d2, d3, d4] }
  | _ => none }
def OverrideExpiresWrongFalsely : Prop := overrideExpiresRow.holds Try.pinned (OpenSpec.ofChange overrideExpiresWrong)

/-- 'plenumlaw34.OverrideEdits': WHATEVER THE INPUT: true; the input reads as it did. -/
def overrideEditsSpec : ChangeSpec := { name := "overrideEdits", fn := fun _ => fun
  | [d1, d2, d3, d4] => { results := [.lit (.bool true)], args := [d1, d2, d3, d4] }
  | _ => none }
def overrideEditsRow : OpenClaim := { program := "ytlcngkigfcacmaa", sum := "c63495a874dcdd517fb726048064bbf156c537ee5fa6817995f0bee449fde2d2", func := "plenum/plenumlaw34.OverrideEdits", spec := "overrideEdits", inPlace := ["slices.overlaps[plenum/api.Hold]"], unfollowed := true, recurses := true, apart := false }
def OverrideEditsSaid : Prop := overrideEditsRow.holds Try.pinned (OpenSpec.ofChange overrideEditsSpec)

/-- ITS FALSE NEIGHBOUR: 'it returns false'. Refute it at one input. -/
def overrideEditsWrong : ChangeSpec := { name := "overrideEdits", fn := fun _ => fun
  | [d1, d2, d3, d4] => { results := [.lit (.bool false)], args := [d1, d2, d3, d4] }
  | _ => none }
def OverrideEditsWrongFalsely : Prop := overrideEditsRow.holds Try.pinned (OpenSpec.ofChange overrideEditsWrong)

/-- 'plenumlaw34.OverrideNewest': WHATEVER THE INPUT: true; the input reads as it did. -/
def overrideNewestSpec : ChangeSpec := { name := "overrideNewest", fn := fun _ => fun
  | [d1, d2, d3, d4] => { results := [.lit (.bool true)], args := [d1, d2, d3, d4] }
  | _ => none }
def overrideNewestRow : OpenClaim := { program := "ytlcngkigfcacmaa", sum := "c63495a874dcdd517fb726048064bbf156c537ee5fa6817995f0bee449fde2d2", func := "plenum/plenumlaw34.OverrideNewest", spec := "overrideNewest", inPlace := ["slices.overlaps[plenum/api.Hold]"], unfollowed := true, recurses := true, apart := false }
def OverrideNewestSaid : Prop := overrideNewestRow.holds Try.pinned (OpenSpec.ofChange overrideNewestSpec)

/-- ITS FALSE NEIGHBOUR: 'it returns false'. Refute it at one input. -/
def overrideNewestWrong : ChangeSpec := { name := "overrideNewest", fn := fun _ => fun
  | [d1, d2, d3, d4] => { results := [.lit (.bool false)], args := [d1, d2, d3, d4] }
  | _ => none }
def OverrideNewestWrongFalsely : Prop := overrideNewestRow.holds Try.pinned (OpenSpec.ofChange overrideNewestWrong)

/-- 'plenumlaw34.OverrideChecks': WHATEVER THE INPUT: true; the input reads as it did. -/
def overrideChecksSpec : ChangeSpec := { name := "overrideChecks", fn := fun _ => fun
  | [d1, d2] => { results := [.lit (.bool true)], args := [d1, d2] }
  | _ => none }
def overrideChecksRow : OpenClaim := { program := "ytlcngkigfcacmaa", sum := "c63495a874dcdd517fb726048064bbf156c537ee5fa6817995f0bee449fde2d2", func := "plenum/plenumlaw34.OverrideChecks", spec := "overrideChecks", inPlace := ["slices.overlaps[plenum/api.Hold]"], unfollowed := true, recurses := true, apart := false }
def OverrideChecksSaid : Prop := overrideChecksRow.holds Try.pinned (OpenSpec.ofChange overrideChecksSpec)

/-- ITS FALSE NEIGHBOUR: 'it returns false'. Refute it at one input. -/
def overrideChecksWrong : ChangeSpec := { name := "overrideChecks", fn := fun _ => fun
  | [d1, d2] => { results := [.lit (.bool false)], args := [d1, d2] }
  | _ => none }
def OverrideChecksWrongFalsely : Prop := overrideChecksRow.holds Try.pinned (OpenSpec.ofChange overrideChecksWrong)

/- THE SECOND FORM. 'bulk': how many values and letters a reading holds, each counted each time it is reached (what is shared counts as often as it is met; a slice's spare places count too). A statement '..UptoSaid' is the law's where the arguments, and the package variables that the reading takes, are together of bulk at most 1048576: NARROWER than '..Said'. Prove '..Said' where nothing that the law and all that it calls make is longer than what came in: it says more and counts as full. Else prove '..UptoSaid'. A law counts once. -/
mutual
def uptoBulk {H : Type} : DataW H → Nat
  | .lit (.string bytes) => bytes.length + 1
  | .lit _ => 1
  | .nil => 1
  | .ptr d => uptoBulk d + 1
  | .slice elems spare => uptoBulkAll elems + uptoBulkAll spare + 1
  | .agg parts => uptoBulkAll parts + 1
  | .iface _ d => uptoBulk d + 1
  | .map entries => uptoBulkEntries entries + 1
  | .held _ => 1
def uptoBulkAll {H : Type} : List (DataW H) → Nat
  | [] => 0
  | d :: r => uptoBulk d + uptoBulkAll r
def uptoBulkEntries {H : Type} : List (Lit × DataW H) → Nat
  | [] => 0
  | x :: r => uptoBulkEntry x + uptoBulkEntries r
def uptoBulkEntry {H : Type} : Lit × DataW H → Nat
  | (.string bytes, d) => bytes.length + uptoBulk d + 1
  | (_, d) => uptoBulk d + 1
 end
def uptoSmall : (H : Type) → List (DataW H) → Bool := fun _ ds => decide (uptoBulkAll ds ≤ 1048576)
def OpenSpec.upto (s : _root_.Go.ChangeSpec) : _root_.Go.OpenSpec := { _root_.Go.OpenSpec.ofChange s with cond := some uptoSmall }

/-- 'plenumlaw34.OverridePieces', WHERE WHAT IT READS IS OF BULK AT MOST 1048576: true; the input reads as it did. -/
def overridePiecesUptoRow : OpenClaim := { program := "ytlcngkigfcacmaa", sum := "c63495a874dcdd517fb726048064bbf156c537ee5fa6817995f0bee449fde2d2", func := "plenum/plenumlaw34.OverridePieces", spec := "overridePieces", unfollowed := true, recurses := true, apart := false, narrowed := true }
def OverridePiecesUptoSaid : Prop := overridePiecesUptoRow.holds Try.pinned (OpenSpec.upto overridePiecesSpec)

/-- 'plenumlaw34.OverrideCovers', WHERE WHAT IT READS IS OF BULK AT MOST 1048576: true; the input reads as it did. -/
def overrideCoversUptoRow : OpenClaim := { program := "ytlcngkigfcacmaa", sum := "c63495a874dcdd517fb726048064bbf156c537ee5fa6817995f0bee449fde2d2", func := "plenum/plenumlaw34.OverrideCovers", spec := "overrideCovers", unfollowed := true, recurses := true, apart := false, narrowed := true }
def OverrideCoversUptoSaid : Prop := overrideCoversUptoRow.holds Try.pinned (OpenSpec.upto overrideCoversSpec)

/-- 'plenumlaw34.OverrideGoverns', WHERE WHAT IT READS IS OF BULK AT MOST 1048576: true; the input reads as it did. -/
def overrideGovernsUptoRow : OpenClaim := { program := "ytlcngkigfcacmaa", sum := "c63495a874dcdd517fb726048064bbf156c537ee5fa6817995f0bee449fde2d2", func := "plenum/plenumlaw34.OverrideGoverns", spec := "overrideGoverns", unfollowed := true, recurses := true, apart := false, narrowed := true }
def OverrideGovernsUptoSaid : Prop := overrideGovernsUptoRow.holds Try.pinned (OpenSpec.upto overrideGovernsSpec)

/-- 'plenumlaw34.OverrideExpires', WHERE WHAT IT READS IS OF BULK AT MOST 1048576: true; the input reads as it did. -/
def overrideExpiresUptoRow : OpenClaim := { program := "ytlcngkigfcacmaa", sum := "c63495a874dcdd517fb726048064bbf156c537ee5fa6817995f0bee449fde2d2", func := "plenum/plenumlaw34.OverrideExpires", spec := "overrideExpires", unfollowed := true, recurses := true, apart := false, narrowed := true }
def OverrideExpiresUptoSaid : Prop := overrideExpiresUptoRow.holds Try.pinned (OpenSpec.upto overrideExpiresSpec)

/-- 'plenumlaw34.OverrideEdits', WHERE WHAT IT READS IS OF BULK AT MOST 1048576: true; the input reads as it did. -/
def overrideEditsUptoRow : OpenClaim := { program := "ytlcngkigfcacmaa", sum := "c63495a874dcdd517fb726048064bbf156c537ee5fa6817995f0bee449fde2d2", func := "plenum/plenumlaw34.OverrideEdits", spec := "overrideEdits", inPlace := ["slices.overlaps[plenum/api.Hold]"], unfollowed := true, recurses := true, apart := false, narrowed := true }
def OverrideEditsUptoSaid : Prop := overrideEditsUptoRow.holds Try.pinned (OpenSpec.upto overrideEditsSpec)

/-- 'plenumlaw34.OverrideNewest', WHERE WHAT IT READS IS OF BULK AT MOST 1048576: true; the input reads as it did. -/
def overrideNewestUptoRow : OpenClaim := { program := "ytlcngkigfcacmaa", sum := "c63495a874dcdd517fb726048064bbf156c537ee5fa6817995f0bee449fde2d2", func := "plenum/plenumlaw34.OverrideNewest", spec := "overrideNewest", inPlace := ["slices.overlaps[plenum/api.Hold]"], unfollowed := true, recurses := true, apart := false, narrowed := true }
def OverrideNewestUptoSaid : Prop := overrideNewestUptoRow.holds Try.pinned (OpenSpec.upto overrideNewestSpec)

/-- 'plenumlaw34.OverrideChecks', WHERE WHAT IT READS IS OF BULK AT MOST 1048576: true; the input reads as it did. -/
def overrideChecksUptoRow : OpenClaim := { program := "ytlcngkigfcacmaa", sum := "c63495a874dcdd517fb726048064bbf156c537ee5fa6817995f0bee449fde2d2", func := "plenum/plenumlaw34.OverrideChecks", spec := "overrideChecks", inPlace := ["slices.overlaps[plenum/api.Hold]"], unfollowed := true, recurses := true, apart := false, narrowed := true }
def OverrideChecksUptoSaid : Prop := overrideChecksUptoRow.holds Try.pinned (OpenSpec.upto overrideChecksSpec)

end Rows
end Go.Proofs.Ytlcngkigfcacmaa
