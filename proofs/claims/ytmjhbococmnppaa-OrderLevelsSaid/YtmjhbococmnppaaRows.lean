/-
  No cell of these rows narrows 'for every input' (looked for: loops, veiled, ifaces, maps, wideKeys, modest, calm, conditions, laid).
  DERIVED. THE GIVEN ROWS OF THIS SEAT. 8 by the template 'for every input the law returns true; each argument reads behind the call as it read before'; 0 by the template 'total and deterministic' (their statements: YtmjhbococmnppaaTotals.lean).
  GIVEN WITH THE SEED: the statements are not yours to turn. If you find one false, say at which input.
  Laid BY PROGRAM, IN A SANDBOX (cutbox-rows.mjs): the forced cells as the released guide's own fill.sh prints them over the translation a99023d93ccfe48a… (all of the seat's roots in one cut). By AI agents, Wed Nov 11 2026. No macro, syntax, notation, axiom, sorry.
-/
import Derived.Test.YtmjhbococmnppaaChecked
import GoSem.Claim
import GoSem.ClaimJoined
import GoSem.ClaimMapViews
import Derived.JoinedTies
import Derived.KernelRfl
namespace Go.Proofs.Ytmjhbococmnppaa
/- THE CELL 'sum', in the pinned program and in every row, IS THE sha256 OF THE DUMP (.gsa) THAT YtmjhbococmnppaaProg.lean LOADS. Nothing in Lean hashes anything: it is a label: what it is worth is what the hold of that sum in a sandbox is worth. -/
noncomputable def Try.pinned : Pinned := { name := "ytmjhbococmnppaa", sum := "a99023d93ccfe48adbae7605a7de2512af8519c4963506e108c54caaa2ed7ed8", checked := Try.checked }
namespace Rows
def none {H : Type} : Left H := { results := [], args := [] }

/-- 'plenumlaw25.OrderFeeds': WHATEVER THE INPUT: true; the input reads as it did. -/
def orderFeedsSpec : ChangeSpec := { name := "orderFeeds", fn := fun _ => fun
  | [d] => { results := [.lit (.bool true)], args := [d] }
  | _ => none }
def orderFeedsRow : OpenClaim := { program := "ytmjhbococmnppaa", sum := "a99023d93ccfe48adbae7605a7de2512af8519c4963506e108c54caaa2ed7ed8", func := "plenum/plenumlaw25.OrderFeeds", spec := "orderFeeds", unfollowed := true, recurses := true, apart := false }
def OrderFeedsSaid : Prop := orderFeedsRow.holds Try.pinned (OpenSpec.ofChange orderFeedsSpec)

/-- ITS FALSE NEIGHBOUR: 'it returns false'. Refute it at one input. -/
def orderFeedsWrong : ChangeSpec := { name := "orderFeeds", fn := fun _ => fun
  | [d] => { results := [.lit (.bool false)], args := [d] }
  | _ => none }
def OrderFeedsWrongFalsely : Prop := orderFeedsRow.holds Try.pinned (OpenSpec.ofChange orderFeedsWrong)

/-- 'plenumlaw25.OrderSorts': WHATEVER THE INPUT: true; the input reads as it did. -/
def orderSortsSpec : ChangeSpec := { name := "orderSorts", fn := fun _ => fun
  | [d1, d2] => { results := [.lit (.bool true)], args := [d1, d2] }
  | _ => none }
def orderSortsRow : OpenClaim := { program := "ytmjhbococmnppaa", sum := "a99023d93ccfe48adbae7605a7de2512af8519c4963506e108c54caaa2ed7ed8", func := "plenum/plenumlaw25.OrderSorts", spec := "orderSorts", unfollowed := true, recurses := true, apart := false }
def OrderSortsSaid : Prop := orderSortsRow.holds Try.pinned (OpenSpec.ofChange orderSortsSpec)

/-- ITS FALSE NEIGHBOUR: 'it returns false'. Refute it at one input. -/
def orderSortsWrong : ChangeSpec := { name := "orderSorts", fn := fun _ => fun
  | [d1, d2] => { results := [.lit (.bool false)], args := [d1, d2] }
  | _ => none }
def OrderSortsWrongFalsely : Prop := orderSortsRow.holds Try.pinned (OpenSpec.ofChange orderSortsWrong)

/-- 'plenumlaw25.OrderCycles': WHATEVER THE INPUT: true; the input reads as it did. -/
def orderCyclesSpec : ChangeSpec := { name := "orderCycles", fn := fun _ => fun
  | [d] => { results := [.lit (.bool true)], args := [d] }
  | _ => none }
def orderCyclesRow : OpenClaim := { program := "ytmjhbococmnppaa", sum := "a99023d93ccfe48adbae7605a7de2512af8519c4963506e108c54caaa2ed7ed8", func := "plenum/plenumlaw25.OrderCycles", spec := "orderCycles", unfollowed := true, recurses := true, apart := false }
def OrderCyclesSaid : Prop := orderCyclesRow.holds Try.pinned (OpenSpec.ofChange orderCyclesSpec)

/-- ITS FALSE NEIGHBOUR: 'it returns false'. Refute it at one input. -/
def orderCyclesWrong : ChangeSpec := { name := "orderCycles", fn := fun _ => fun
  | [d] => { results := [.lit (.bool false)], args := [d] }
  | _ => none }
def OrderCyclesWrongFalsely : Prop := orderCyclesRow.holds Try.pinned (OpenSpec.ofChange orderCyclesWrong)

/-- 'plenumlaw25.OrderDepends': WHATEVER THE INPUT: true; the input reads as it did. -/
def orderDependsSpec : ChangeSpec := { name := "orderDepends", fn := fun _ => fun
  | [d1, d2] => { results := [.lit (.bool true)], args := [d1, d2] }
  | _ => none }
def orderDependsRow : OpenClaim := { program := "ytmjhbococmnppaa", sum := "a99023d93ccfe48adbae7605a7de2512af8519c4963506e108c54caaa2ed7ed8", func := "plenum/plenumlaw25.OrderDepends", spec := "orderDepends", unfollowed := true, recurses := true, apart := false }
def OrderDependsSaid : Prop := orderDependsRow.holds Try.pinned (OpenSpec.ofChange orderDependsSpec)

/-- ITS FALSE NEIGHBOUR: 'it returns false'. Refute it at one input. -/
def orderDependsWrong : ChangeSpec := { name := "orderDepends", fn := fun _ => fun
  | [d1, d2] => { results := [.lit (.bool false)], args := [d1, d2] }
  | _ => none }
def OrderDependsWrongFalsely : Prop := orderDependsRow.holds Try.pinned (OpenSpec.ofChange orderDependsWrong)

/-- 'plenumlaw25.OrderEither': WHATEVER THE INPUT: true; the input reads as it did. -/
def orderEitherSpec : ChangeSpec := { name := "orderEither", fn := fun _ => fun
  | [d] => { results := [.lit (.bool true)], args := [d] }
  | _ => none }
def orderEitherRow : OpenClaim := { program := "ytmjhbococmnppaa", sum := "a99023d93ccfe48adbae7605a7de2512af8519c4963506e108c54caaa2ed7ed8", func := "plenum/plenumlaw25.OrderEither", spec := "orderEither", unfollowed := true, recurses := true, apart := false }
def OrderEitherSaid : Prop := orderEitherRow.holds Try.pinned (OpenSpec.ofChange orderEitherSpec)

/-- ITS FALSE NEIGHBOUR: 'it returns false'. Refute it at one input. -/
def orderEitherWrong : ChangeSpec := { name := "orderEither", fn := fun _ => fun
  | [d] => { results := [.lit (.bool false)], args := [d] }
  | _ => none }
def OrderEitherWrongFalsely : Prop := orderEitherRow.holds Try.pinned (OpenSpec.ofChange orderEitherWrong)

/-- 'plenumlaw25.OrderExchanges': WHATEVER THE INPUT: true; the input reads as it did. -/
def orderExchangesSpec : ChangeSpec := { name := "orderExchanges", fn := fun _ => fun
  | [d1, d2, d3] => { results := [.lit (.bool true)], args := [d1, d2, d3] }
  | _ => none }
def orderExchangesRow : OpenClaim := { program := "ytmjhbococmnppaa", sum := "a99023d93ccfe48adbae7605a7de2512af8519c4963506e108c54caaa2ed7ed8", func := "plenum/plenumlaw25.OrderExchanges", spec := "orderExchanges", unfollowed := true, recurses := true, apart := false }
def OrderExchangesSaid : Prop := orderExchangesRow.holds Try.pinned (OpenSpec.ofChange orderExchangesSpec)

/-- ITS FALSE NEIGHBOUR: 'it returns false'. Refute it at one input. -/
def orderExchangesWrong : ChangeSpec := { name := "orderExchanges", fn := fun _ => fun
  | [d1, d2, d3] => { results := [.lit (.bool false)], args := [d1, d2, d3] }
  | _ => none }
def OrderExchangesWrongFalsely : Prop := orderExchangesRow.holds Try.pinned (OpenSpec.ofChange orderExchangesWrong)

/-- 'plenumlaw25.OrderLevels': WHATEVER THE INPUT: true; the input reads as it did. -/
def orderLevelsSpec : ChangeSpec := { name := "orderLevels", fn := fun _ => fun
  | [d] => { results := [.lit (.bool true)], args := [d] }
  | _ => none }
def orderLevelsRow : OpenClaim := { program := "ytmjhbococmnppaa", sum := "a99023d93ccfe48adbae7605a7de2512af8519c4963506e108c54caaa2ed7ed8", func := "plenum/plenumlaw25.OrderLevels", spec := "orderLevels", unfollowed := true, recurses := true, apart := false }
def OrderLevelsSaid : Prop := orderLevelsRow.holds Try.pinned (OpenSpec.ofChange orderLevelsSpec)

/-- ITS FALSE NEIGHBOUR: 'it returns false'. Refute it at one input. -/
def orderLevelsWrong : ChangeSpec := { name := "orderLevels", fn := fun _ => fun
  | [d] => { results := [.lit (.bool false)], args := [d] }
  | _ => none }
def OrderLevelsWrongFalsely : Prop := orderLevelsRow.holds Try.pinned (OpenSpec.ofChange orderLevelsWrong)

/-- 'plenumlaw25.OrderUsed': WHATEVER THE INPUT: true; the input reads as it did. -/
def orderUsedSpec : ChangeSpec := { name := "orderUsed", fn := fun _ => fun
  | [d] => { results := [.lit (.bool true)], args := [d] }
  | _ => none }
def orderUsedRow : OpenClaim := { program := "ytmjhbococmnppaa", sum := "a99023d93ccfe48adbae7605a7de2512af8519c4963506e108c54caaa2ed7ed8", func := "plenum/plenumlaw25.OrderUsed", spec := "orderUsed", unfollowed := true, recurses := true, apart := false }
def OrderUsedSaid : Prop := orderUsedRow.holds Try.pinned (OpenSpec.ofChange orderUsedSpec)

/-- ITS FALSE NEIGHBOUR: 'it returns false'. Refute it at one input. -/
def orderUsedWrong : ChangeSpec := { name := "orderUsed", fn := fun _ => fun
  | [d] => { results := [.lit (.bool false)], args := [d] }
  | _ => none }
def OrderUsedWrongFalsely : Prop := orderUsedRow.holds Try.pinned (OpenSpec.ofChange orderUsedWrong)

/- THE SECOND FORM. 'bulk': how many values and letters a reading holds, each counted each time it is reached (what is shared counts as often as it is met; a slice's spare places count too). A statement '..UptoSaid' is the law's where the arguments, and the package variables that the reading takes, are together of bulk at most 1048576: NARROWER than '..Said'. Prove '..Said' where nothing that the law and all that it calls make is longer than what came in: it says more and counts as full. Else prove '..UptoSaid'. A law counts once. -/
mutual
def uptoBulk {H : Type} : DataW H → Nat
  | .lit (.string bytes) => bytes.length + 1
  | .lit _ => 1
  | .nil => 1
  | .ptr d => uptoBulk d + 1
  | .slice elems spare => uptoBulkAll elems + uptoBulkAll spare + 1
  | .agg parts => uptoBulkAll parts + 1
  | .iface _ d => uptoBulk d + 1
  | .map entries => uptoBulkEntries entries + 1
  | .held _ => 1
def uptoBulkAll {H : Type} : List (DataW H) → Nat
  | [] => 0
  | d :: r => uptoBulk d + uptoBulkAll r
def uptoBulkEntries {H : Type} : List (Lit × DataW H) → Nat
  | [] => 0
  | x :: r => uptoBulkEntry x + uptoBulkEntries r
def uptoBulkEntry {H : Type} : Lit × DataW H → Nat
  | (.string bytes, d) => bytes.length + uptoBulk d + 1
  | (_, d) => uptoBulk d + 1
 end
def uptoSmall : (H : Type) → List (DataW H) → Bool := fun _ ds => decide (uptoBulkAll ds ≤ 1048576)
def OpenSpec.upto (s : _root_.Go.ChangeSpec) : _root_.Go.OpenSpec := { _root_.Go.OpenSpec.ofChange s with cond := some uptoSmall }

/-- 'plenumlaw25.OrderFeeds', WHERE WHAT IT READS IS OF BULK AT MOST 1048576: true; the input reads as it did. -/
def orderFeedsUptoRow : OpenClaim := { program := "ytmjhbococmnppaa", sum := "a99023d93ccfe48adbae7605a7de2512af8519c4963506e108c54caaa2ed7ed8", func := "plenum/plenumlaw25.OrderFeeds", spec := "orderFeeds", unfollowed := true, recurses := true, apart := false, narrowed := true }
def OrderFeedsUptoSaid : Prop := orderFeedsUptoRow.holds Try.pinned (OpenSpec.upto orderFeedsSpec)

/-- 'plenumlaw25.OrderSorts', WHERE WHAT IT READS IS OF BULK AT MOST 1048576: true; the input reads as it did. -/
def orderSortsUptoRow : OpenClaim := { program := "ytmjhbococmnppaa", sum := "a99023d93ccfe48adbae7605a7de2512af8519c4963506e108c54caaa2ed7ed8", func := "plenum/plenumlaw25.OrderSorts", spec := "orderSorts", unfollowed := true, recurses := true, apart := false, narrowed := true }
def OrderSortsUptoSaid : Prop := orderSortsUptoRow.holds Try.pinned (OpenSpec.upto orderSortsSpec)

/-- 'plenumlaw25.OrderCycles', WHERE WHAT IT READS IS OF BULK AT MOST 1048576: true; the input reads as it did. -/
def orderCyclesUptoRow : OpenClaim := { program := "ytmjhbococmnppaa", sum := "a99023d93ccfe48adbae7605a7de2512af8519c4963506e108c54caaa2ed7ed8", func := "plenum/plenumlaw25.OrderCycles", spec := "orderCycles", unfollowed := true, recurses := true, apart := false, narrowed := true }
def OrderCyclesUptoSaid : Prop := orderCyclesUptoRow.holds Try.pinned (OpenSpec.upto orderCyclesSpec)

/-- 'plenumlaw25.OrderDepends', WHERE WHAT IT READS IS OF BULK AT MOST 1048576: true; the input reads as it did. -/
def orderDependsUptoRow : OpenClaim := { program := "ytmjhbococmnppaa", sum := "a99023d93ccfe48adbae7605a7de2512af8519c4963506e108c54caaa2ed7ed8", func := "plenum/plenumlaw25.OrderDepends", spec := "orderDepends", unfollowed := true, recurses := true, apart := false, narrowed := true }
def OrderDependsUptoSaid : Prop := orderDependsUptoRow.holds Try.pinned (OpenSpec.upto orderDependsSpec)

/-- 'plenumlaw25.OrderEither', WHERE WHAT IT READS IS OF BULK AT MOST 1048576: true; the input reads as it did. -/
def orderEitherUptoRow : OpenClaim := { program := "ytmjhbococmnppaa", sum := "a99023d93ccfe48adbae7605a7de2512af8519c4963506e108c54caaa2ed7ed8", func := "plenum/plenumlaw25.OrderEither", spec := "orderEither", unfollowed := true, recurses := true, apart := false, narrowed := true }
def OrderEitherUptoSaid : Prop := orderEitherUptoRow.holds Try.pinned (OpenSpec.upto orderEitherSpec)

/-- 'plenumlaw25.OrderExchanges', WHERE WHAT IT READS IS OF BULK AT MOST 1048576: true; the input reads as it did. -/
def orderExchangesUptoRow : OpenClaim := { program := "ytmjhbococmnppaa", sum := "a99023d93ccfe48adbae7605a7de2512af8519c4963506e108c54caaa2ed7ed8", func := "plenum/plenumlaw25.OrderExchanges", spec := "orderExchanges", unfollowed := true, recurses := true, apart := false, narrowed := true }
def OrderExchangesUptoSaid : Prop := orderExchangesUptoRow.holds Try.pinned (OpenSpec.upto orderExchangesSpec)

/-- 'plenumlaw25.OrderLevels', WHERE WHAT IT READS IS OF BULK AT MOST 1048576: true; the input reads as it did. -/
def orderLevelsUptoRow : OpenClaim := { program := "ytmjhbococmnppaa", sum := "a99023d93ccfe48adbae7605a7de2512af8519c4963506e108c54caaa2ed7ed8", func := "plenum/plenumlaw25.OrderLevels", spec := "orderLevels", unfollowed := true, recurses := true, apart := false, narrowed := true }
def OrderLevelsUptoSaid : Prop := orderLevelsUptoRow.holds Try.pinned (OpenSpec.upto orderLevelsSpec)

/-- 'plenumlaw25.OrderUsed', WHERE WHAT IT READS IS OF BULK AT MOST 1048576: true; the input reads as it did. -/
def orderUsedUptoRow : OpenClaim := { program := "ytmjhbococmnppaa", sum := "a99023d93ccfe48adbae7605a7de2512af8519c4963506e108c54caaa2ed7ed8", func := "plenum/plenumlaw25.OrderUsed", spec := "orderUsed", unfollowed := true, recurses := true, apart := false, narrowed := true }
def OrderUsedUptoSaid : Prop := orderUsedUptoRow.holds Try.pinned (OpenSpec.upto orderUsedSpec)

end Rows
end Go.Proofs.Ytmjhbococmnppaa
