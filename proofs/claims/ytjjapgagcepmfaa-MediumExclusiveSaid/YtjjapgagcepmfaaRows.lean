/-
  No cell of these rows narrows 'for every input' (looked for: loops, veiled, ifaces, maps, wideKeys, modest, calm, conditions, laid).
  DERIVED. THE GIVEN ROWS OF THIS SEAT. 6 by the template 'for every input the law returns true; each argument reads behind the call as it read before'; 0 by the template 'total and deterministic' (their statements: YtjjapgagcepmfaaTotals.lean).
  GIVEN WITH THE SEED: the statements are not yours to turn. If you find one false, say at which input.
  Laid BY PROGRAM, IN A SANDBOX (cutbox-rows.mjs): the forced cells as the released guide's own fill.sh prints them over the translation 39ae6da2740c1111… (all of the seat's roots in one cut). By AI agents, Wed Nov 11 2026. No macro, syntax, notation, axiom, sorry.
-/
import Derived.Test.YtjjapgagcepmfaaChecked
import GoSem.Claim
import GoSem.ClaimJoined
import GoSem.ClaimMapViews
import Derived.JoinedTies
import Derived.KernelRfl
namespace Go.Proofs.Ytjjapgagcepmfaa
/- THE CELL 'sum', in the pinned program and in every row, IS THE sha256 OF THE DUMP (.gsa) THAT YtjjapgagcepmfaaProg.lean LOADS. Nothing in Lean hashes anything: it is a label: what it is worth is what the hold of that sum in a sandbox is worth. -/
noncomputable def Try.pinned : Pinned := { name := "ytjjapgagcepmfaa", sum := "39ae6da2740c111107c91a5e03e12cf058209e90d347afebdec0c1faf00ba3aa", checked := Try.checked }
namespace Rows
def none {H : Type} : Left H := { results := [], args := [] }

/-- 'plenumlaw46.MediumResolves': WHATEVER THE INPUT: true; the input reads as it did. -/
def mediumResolvesSpec : ChangeSpec := { name := "mediumResolves", fn := fun _ => fun
  | [d1, d2] => { results := [.lit (.bool true)], args := [d1, d2] }
  | _ => none }
def mediumResolvesRow : OpenClaim := { program := "ytjjapgagcepmfaa", sum := "39ae6da2740c111107c91a5e03e12cf058209e90d347afebdec0c1faf00ba3aa", func := "plenum/plenumlaw46.MediumResolves", spec := "mediumResolves", apart := false }
def MediumResolvesSaid : Prop := mediumResolvesRow.holds Try.pinned (OpenSpec.ofChange mediumResolvesSpec)

/-- ITS FALSE NEIGHBOUR: 'it returns false'. Refute it at one input. -/
def mediumResolvesWrong : ChangeSpec := { name := "mediumResolves", fn := fun _ => fun
  | [d1, d2] => { results := [.lit (.bool false)], args := [d1, d2] }
  | _ => none }
def MediumResolvesWrongFalsely : Prop := mediumResolvesRow.holds Try.pinned (OpenSpec.ofChange mediumResolvesWrong)

/-- 'plenumlaw46.MediumExclusive': WHATEVER THE INPUT: true; the input reads as it did. -/
def mediumExclusiveSpec : ChangeSpec := { name := "mediumExclusive", fn := fun _ => fun
  | [d] => { results := [.lit (.bool true)], args := [d] }
  | _ => none }
def mediumExclusiveRow : OpenClaim := { program := "ytjjapgagcepmfaa", sum := "39ae6da2740c111107c91a5e03e12cf058209e90d347afebdec0c1faf00ba3aa", func := "plenum/plenumlaw46.MediumExclusive", spec := "mediumExclusive", apart := false }
def MediumExclusiveSaid : Prop := mediumExclusiveRow.holds Try.pinned (OpenSpec.ofChange mediumExclusiveSpec)

/-- ITS FALSE NEIGHBOUR: 'it returns false'. Refute it at one input. -/
def mediumExclusiveWrong : ChangeSpec := { name := "mediumExclusive", fn := fun _ => fun
  | [d] => { results := [.lit (.bool false)], args := [d] }
  | _ => none }
def MediumExclusiveWrongFalsely : Prop := mediumExclusiveRow.holds Try.pinned (OpenSpec.ofChange mediumExclusiveWrong)

/-- 'plenumlaw46.MediumQuiet': WHATEVER THE INPUT: true; the input reads as it did. -/
def mediumQuietSpec : ChangeSpec := { name := "mediumQuiet", fn := fun _ => fun
  | [d1, d2, d3] => { results := [.lit (.bool true)], args := [d1, d2, d3] }
  | _ => none }
def mediumQuietRow : OpenClaim := { program := "ytjjapgagcepmfaa", sum := "39ae6da2740c111107c91a5e03e12cf058209e90d347afebdec0c1faf00ba3aa", func := "plenum/plenumlaw46.MediumQuiet", spec := "mediumQuiet", apart := false }
def MediumQuietSaid : Prop := mediumQuietRow.holds Try.pinned (OpenSpec.ofChange mediumQuietSpec)

/-- ITS FALSE NEIGHBOUR: 'it returns false'. Refute it at one input. -/
def mediumQuietWrong : ChangeSpec := { name := "mediumQuiet", fn := fun _ => fun
  | [d1, d2, d3] => { results := [.lit (.bool false)], args := [d1, d2, d3] }
  | _ => none }
def MediumQuietWrongFalsely : Prop := mediumQuietRow.holds Try.pinned (OpenSpec.ofChange mediumQuietWrong)

/-- 'plenumlaw46.MediumRemembers': WHATEVER THE INPUT: true; the input reads as it did. -/
def mediumRemembersSpec : ChangeSpec := { name := "mediumRemembers", fn := fun _ => fun
  | [d] => { results := [.lit (.bool true)], args := [d] }
  | _ => none }
def mediumRemembersRow : OpenClaim := { program := "ytjjapgagcepmfaa", sum := "39ae6da2740c111107c91a5e03e12cf058209e90d347afebdec0c1faf00ba3aa", func := "plenum/plenumlaw46.MediumRemembers", spec := "mediumRemembers", apart := false }
def MediumRemembersSaid : Prop := mediumRemembersRow.holds Try.pinned (OpenSpec.ofChange mediumRemembersSpec)

/-- ITS FALSE NEIGHBOUR: 'it returns false'. Refute it at one input. -/
def mediumRemembersWrong : ChangeSpec := { name := "mediumRemembers", fn := fun _ => fun
  | [d] => { results := [.lit (.bool false)], args := [d] }
  | _ => none }
def MediumRemembersWrongFalsely : Prop := mediumRemembersRow.holds Try.pinned (OpenSpec.ofChange mediumRemembersWrong)

/-- 'plenumlaw46.MediumAdjoins': WHATEVER THE INPUT: true; the input reads as it did. -/
def mediumAdjoinsSpec : ChangeSpec := { name := "mediumAdjoins", fn := fun _ => fun
  | [d1, d2, d3, d4, d5] => { results := [.lit (.bool true)], args := [d1, d2, d3, d4, d5] }
  | _ => none }
def mediumAdjoinsRow : OpenClaim := { program := "ytjjapgagcepmfaa", sum := "39ae6da2740c111107c91a5e03e12cf058209e90d347afebdec0c1faf00ba3aa", func := "plenum/plenumlaw46.MediumAdjoins", spec := "mediumAdjoins", apart := false }
def MediumAdjoinsSaid : Prop := mediumAdjoinsRow.holds Try.pinned (OpenSpec.ofChange mediumAdjoinsSpec)

/-- ITS FALSE NEIGHBOUR: 'it returns false'. Refute it at one input. -/
def mediumAdjoinsWrong : ChangeSpec := { name := "mediumAdjoins", fn := fun _ => fun
  | [d1, d2, d3, d4, d5] => { results := [.lit (.bool false)], args := [d1, d2, d3, d4, d5] }
  | _ => none }
def MediumAdjoinsWrongFalsely : Prop := mediumAdjoinsRow.holds Try.pinned (OpenSpec.ofChange mediumAdjoinsWrong)

/-- 'plenumlaw46.MediumPlays': WHATEVER THE INPUT: true; the input reads as it did. -/
def mediumPlaysSpec : ChangeSpec := { name := "mediumPlays", fn := fun _ => fun
  | [d1, d2, d3, d4, d5] => { results := [.lit (.bool true)], args := [d1, d2, d3, d4, d5] }
  | _ => none }
def mediumPlaysRow : OpenClaim := { program := "ytjjapgagcepmfaa", sum := "39ae6da2740c111107c91a5e03e12cf058209e90d347afebdec0c1faf00ba3aa", func := "plenum/plenumlaw46.MediumPlays", spec := "mediumPlays", apart := false }
def MediumPlaysSaid : Prop := mediumPlaysRow.holds Try.pinned (OpenSpec.ofChange mediumPlaysSpec)

/-- ITS FALSE NEIGHBOUR: 'it returns false'. Refute it at one input. -/
def mediumPlaysWrong : ChangeSpec := { name := "mediumPlays", fn := fun _ => fun
  | [d1, d2, d3, d4, d5] => { results := [.lit (.bool false)], args := [d1, d2, d3, d4, d5] }
  | _ => none }
def MediumPlaysWrongFalsely : Prop := mediumPlaysRow.holds Try.pinned (OpenSpec.ofChange mediumPlaysWrong)

/- THE SECOND FORM. 'bulk': how many values and letters a reading holds, each counted each time it is reached (what is shared counts as often as it is met; a slice's spare places count too). A statement '..UptoSaid' is the law's where the arguments, and the package variables that the reading takes, are together of bulk at most 1048576: NARROWER than '..Said'. Prove '..Said' where nothing that the law and all that it calls make is longer than what came in: it says more and counts as full. Else prove '..UptoSaid'. A law counts once. -/
mutual
def uptoBulk {H : Type} : DataW H → Nat
  | .lit (.string bytes) => bytes.length + 1
  | .lit _ => 1
  | .nil => 1
  | .ptr d => uptoBulk d + 1
  | .slice elems spare => uptoBulkAll elems + uptoBulkAll spare + 1
  | .agg parts => uptoBulkAll parts + 1
  | .iface _ d => uptoBulk d + 1
  | .map entries => uptoBulkEntries entries + 1
  | .held _ => 1
def uptoBulkAll {H : Type} : List (DataW H) → Nat
  | [] => 0
  | d :: r => uptoBulk d + uptoBulkAll r
def uptoBulkEntries {H : Type} : List (Lit × DataW H) → Nat
  | [] => 0
  | x :: r => uptoBulkEntry x + uptoBulkEntries r
def uptoBulkEntry {H : Type} : Lit × DataW H → Nat
  | (.string bytes, d) => bytes.length + uptoBulk d + 1
  | (_, d) => uptoBulk d + 1
 end
def uptoSmall : (H : Type) → List (DataW H) → Bool := fun _ ds => decide (uptoBulkAll ds ≤ 1048576)
def OpenSpec.upto (s : _root_.Go.ChangeSpec) : _root_.Go.OpenSpec := { _root_.Go.OpenSpec.ofChange s with cond := some uptoSmall }

/-- 'plenumlaw46.MediumResolves', WHERE WHAT IT READS IS OF BULK AT MOST 1048576: true; the input reads as it did. -/
def mediumResolvesUptoRow : OpenClaim := { program := "ytjjapgagcepmfaa", sum := "39ae6da2740c111107c91a5e03e12cf058209e90d347afebdec0c1faf00ba3aa", func := "plenum/plenumlaw46.MediumResolves", spec := "mediumResolves", apart := false, narrowed := true }
def MediumResolvesUptoSaid : Prop := mediumResolvesUptoRow.holds Try.pinned (OpenSpec.upto mediumResolvesSpec)

/-- 'plenumlaw46.MediumExclusive', WHERE WHAT IT READS IS OF BULK AT MOST 1048576: true; the input reads as it did. -/
def mediumExclusiveUptoRow : OpenClaim := { program := "ytjjapgagcepmfaa", sum := "39ae6da2740c111107c91a5e03e12cf058209e90d347afebdec0c1faf00ba3aa", func := "plenum/plenumlaw46.MediumExclusive", spec := "mediumExclusive", apart := false, narrowed := true }
def MediumExclusiveUptoSaid : Prop := mediumExclusiveUptoRow.holds Try.pinned (OpenSpec.upto mediumExclusiveSpec)

/-- 'plenumlaw46.MediumQuiet', WHERE WHAT IT READS IS OF BULK AT MOST 1048576: true; the input reads as it did. -/
def mediumQuietUptoRow : OpenClaim := { program := "ytjjapgagcepmfaa", sum := "39ae6da2740c111107c91a5e03e12cf058209e90d347afebdec0c1faf00ba3aa", func := "plenum/plenumlaw46.MediumQuiet", spec := "mediumQuiet", apart := false, narrowed := true }
def MediumQuietUptoSaid : Prop := mediumQuietUptoRow.holds Try.pinned (OpenSpec.upto mediumQuietSpec)

/-- 'plenumlaw46.MediumRemembers', WHERE WHAT IT READS IS OF BULK AT MOST 1048576: true; the input reads as it did. -/
def mediumRemembersUptoRow : OpenClaim := { program := "ytjjapgagcepmfaa", sum := "39ae6da2740c111107c91a5e03e12cf058209e90d347afebdec0c1faf00ba3aa", func := "plenum/plenumlaw46.MediumRemembers", spec := "mediumRemembers", apart := false, narrowed := true }
def MediumRemembersUptoSaid : Prop := mediumRemembersUptoRow.holds Try.pinned (OpenSpec.upto mediumRemembersSpec)

/-- 'plenumlaw46.MediumAdjoins', WHERE WHAT IT READS IS OF BULK AT MOST 1048576: true; the input reads as it did. -/
def mediumAdjoinsUptoRow : OpenClaim := { program := "ytjjapgagcepmfaa", sum := "39ae6da2740c111107c91a5e03e12cf058209e90d347afebdec0c1faf00ba3aa", func := "plenum/plenumlaw46.MediumAdjoins", spec := "mediumAdjoins", apart := false, narrowed := true }
def MediumAdjoinsUptoSaid : Prop := mediumAdjoinsUptoRow.holds Try.pinned (OpenSpec.upto mediumAdjoinsSpec)

/-- 'plenumlaw46.MediumPlays', WHERE WHAT IT READS IS OF BULK AT MOST 1048576: true; the input reads as it did. -/
def mediumPlaysUptoRow : OpenClaim := { program := "ytjjapgagcepmfaa", sum := "39ae6da2740c111107c91a5e03e12cf058209e90d347afebdec0c1faf00ba3aa", func := "plenum/plenumlaw46.MediumPlays", spec := "mediumPlays", apart := false, narrowed := true }
def MediumPlaysUptoSaid : Prop := mediumPlaysUptoRow.holds Try.pinned (OpenSpec.upto mediumPlaysSpec)

end Rows
end Go.Proofs.Ytjjapgagcepmfaa
