/-
  No cell of these rows narrows 'for every input' (looked for: loops, veiled, ifaces, maps, wideKeys, modest, calm, conditions, laid).
  DERIVED. THE GIVEN ROWS OF THIS SEAT. 10 by the template 'for every input the law returns true; each argument reads behind the call as it read before'; 0 by the template 'total and deterministic' (their statements: YtbamghnnnngdeaaTotals.lean).
  GIVEN WITH THE SEED: the statements are not yours to turn. If you find one false, say at which input.
  Laid BY PROGRAM, IN A SANDBOX (cutbox-rows.mjs): the forced cells as the released guide's own fill.sh prints them over the translation 18d8056629f737df… (all of the seat's roots in one cut). By AI agents, Wed Nov 11 2026. No macro, syntax, notation, axiom, sorry.
-/
import Derived.Test.YtbamghnnnngdeaaChecked
import GoSem.Claim
import GoSem.ClaimJoined
import GoSem.ClaimMapViews
import Derived.JoinedTies
import Derived.KernelRfl
namespace Go.Proofs.Ytbamghnnnngdeaa
/- THE CELL 'sum', in the pinned program and in every row, IS THE sha256 OF THE DUMP (.gsa) THAT YtbamghnnnngdeaaProg.lean LOADS. Nothing in Lean hashes anything: it is a label: what it is worth is what the hold of that sum in a sandbox is worth. -/
noncomputable def Try.pinned : Pinned := { name := "ytbamghnnnngdeaa", sum := "18d8056629f737df72ca3324610a61ae40b5ad26f2ada13a10af9afac18775ae", checked := Try.checked }
namespace Rows
def none {H : Type} : Left H := { results := [], args := [] }

/-- 'routescopelaw10.BalanceBijective': WHATEVER THE INPUT: true; the input reads as it did. -/
def balanceBijectiveSpec : ChangeSpec := { name := "balanceBijective", fn := fun _ => fun
  | [d1, d2, d3] => { results := [.lit (.bool true)], args := [d1, d2, d3] }
  | _ => none }
def balanceBijectiveRow : OpenClaim := { program := "ytbamghnnnngdeaa", sum := "18d8056629f737df72ca3324610a61ae40b5ad26f2ada13a10af9afac18775ae", func := "routescope/routescopelaw10.BalanceBijective", spec := "balanceBijective", apart := false }
def BalanceBijectiveSaid : Prop := balanceBijectiveRow.holds Try.pinned (OpenSpec.ofChange balanceBijectiveSpec)

/-- ITS FALSE NEIGHBOUR: 'it returns false'. Refute it at one input. -/
def balanceBijectiveWrong : ChangeSpec := { name := "balanceBijective", fn := fun _ => fun
  | [d1, d2, d3] => { results := [.lit (.bool false)], args := [d1, d2, d3] }
  | _ => none }
def BalanceBijectiveWrongFalsely : Prop := balanceBijectiveRow.holds Try.pinned (OpenSpec.ofChange balanceBijectiveWrong)

/-- 'routescopelaw12.BucketRefused': WHATEVER THE INPUT: true; the input reads as it did. -/
def bucketRefusedSpec : ChangeSpec := { name := "bucketRefused", fn := fun _ => fun
  | [d] => { results := [.lit (.bool true)], args := [d] }
  | _ => none }
def bucketRefusedRow : OpenClaim := { program := "ytbamghnnnngdeaa", sum := "18d8056629f737df72ca3324610a61ae40b5ad26f2ada13a10af9afac18775ae", func := "routescope/routescopelaw12.BucketRefused", spec := "bucketRefused", recurses := true, apart := false }
def BucketRefusedSaid : Prop := bucketRefusedRow.holds Try.pinned (OpenSpec.ofChange bucketRefusedSpec)

/-- ITS FALSE NEIGHBOUR: 'it returns false'. Refute it at one input. -/
def bucketRefusedWrong : ChangeSpec := { name := "bucketRefused", fn := fun _ => fun
  | [d] => { results := [.lit (.bool false)], args := [d] }
  | _ => none }
def BucketRefusedWrongFalsely : Prop := bucketRefusedRow.holds Try.pinned (OpenSpec.ofChange bucketRefusedWrong)

/-- 'routescopelaw12.BucketWindow': WHATEVER THE INPUT: true; the input reads as it did. -/
def bucketWindowSpec : ChangeSpec := { name := "bucketWindow", fn := fun _ => fun
  | [d] => { results := [.lit (.bool true)], args := [d] }
  | _ => none }
def bucketWindowRow : OpenClaim := { program := "ytbamghnnnngdeaa", sum := "18d8056629f737df72ca3324610a61ae40b5ad26f2ada13a10af9afac18775ae", func := "routescope/routescopelaw12.BucketWindow", spec := "bucketWindow", recurses := true, apart := false }
def BucketWindowSaid : Prop := bucketWindowRow.holds Try.pinned (OpenSpec.ofChange bucketWindowSpec)

/-- ITS FALSE NEIGHBOUR: 'it returns false'. Refute it at one input. -/
def bucketWindowWrong : ChangeSpec := { name := "bucketWindow", fn := fun _ => fun
  | [d] => { results := [.lit (.bool false)], args := [d] }
  | _ => none }
def BucketWindowWrongFalsely : Prop := bucketWindowRow.holds Try.pinned (OpenSpec.ofChange bucketWindowWrong)

/-- 'routescopelaw12.BucketReady': WHATEVER THE INPUT: true; the input reads as it did. -/
def bucketReadySpec : ChangeSpec := { name := "bucketReady", fn := fun _ => fun
  | [d1, d2] => { results := [.lit (.bool true)], args := [d1, d2] }
  | _ => none }
def bucketReadyRow : OpenClaim := { program := "ytbamghnnnngdeaa", sum := "18d8056629f737df72ca3324610a61ae40b5ad26f2ada13a10af9afac18775ae", func := "routescope/routescopelaw12.BucketReady", spec := "bucketReady", recurses := true, apart := false }
def BucketReadySaid : Prop := bucketReadyRow.holds Try.pinned (OpenSpec.ofChange bucketReadySpec)

/-- ITS FALSE NEIGHBOUR: 'it returns false'. Refute it at one input. -/
def bucketReadyWrong : ChangeSpec := { name := "bucketReady", fn := fun _ => fun
  | [d1, d2] => { results := [.lit (.bool false)], args := [d1, d2] }
  | _ => none }
def BucketReadyWrongFalsely : Prop := bucketReadyRow.holds Try.pinned (OpenSpec.ofChange bucketReadyWrong)

/-- 'routescopelaw10.BalanceExact': WHATEVER THE INPUT: true; the input reads as it did. -/
def balanceExactSpec : ChangeSpec := { name := "balanceExact", fn := fun _ => fun
  | [d1, d2, d3, d4, d5, d6, d7] => { results := [.lit (.bool true)], args := [d1, d2, d3, d4, d5, d6, d7] }
  | _ => none }
def balanceExactRow : OpenClaim := { program := "ytbamghnnnngdeaa", sum := "18d8056629f737df72ca3324610a61ae40b5ad26f2ada13a10af9afac18775ae", func := "routescope/routescopelaw10.BalanceExact", spec := "balanceExact", recurses := true, apart := false }
def BalanceExactSaid : Prop := balanceExactRow.holds Try.pinned (OpenSpec.ofChange balanceExactSpec)

/-- ITS FALSE NEIGHBOUR: 'it returns false'. Refute it at one input. -/
def balanceExactWrong : ChangeSpec := { name := "balanceExact", fn := fun _ => fun
  | [d1, d2, d3, d4, d5, d6, d7] => { results := [.lit (.bool false)], args := [d1, d2, d3, d4, d5, d6, d7] }
  | _ => none }
def BalanceExactWrongFalsely : Prop := balanceExactRow.holds Try.pinned (OpenSpec.ofChange balanceExactWrong)

/-- 'routescopelaw10.BalanceKeys': WHATEVER THE INPUT: true; the input reads as it did. -/
def balanceKeysSpec : ChangeSpec := { name := "balanceKeys", fn := fun _ => fun
  | [d1, d2, d3, d4, d5, d6] => { results := [.lit (.bool true)], args := [d1, d2, d3, d4, d5, d6] }
  | _ => none }
def balanceKeysRow : OpenClaim := { program := "ytbamghnnnngdeaa", sum := "18d8056629f737df72ca3324610a61ae40b5ad26f2ada13a10af9afac18775ae", func := "routescope/routescopelaw10.BalanceKeys", spec := "balanceKeys", recurses := true, apart := false }
def BalanceKeysSaid : Prop := balanceKeysRow.holds Try.pinned (OpenSpec.ofChange balanceKeysSpec)

/-- ITS FALSE NEIGHBOUR: 'it returns false'. Refute it at one input. -/
def balanceKeysWrong : ChangeSpec := { name := "balanceKeys", fn := fun _ => fun
  | [d1, d2, d3, d4, d5, d6] => { results := [.lit (.bool false)], args := [d1, d2, d3, d4, d5, d6] }
  | _ => none }
def BalanceKeysWrongFalsely : Prop := balanceKeysRow.holds Try.pinned (OpenSpec.ofChange balanceKeysWrong)

/-- 'routescopelaw10.BalanceTurns': WHATEVER THE INPUT: true; the input reads as it did. -/
def balanceTurnsSpec : ChangeSpec := { name := "balanceTurns", fn := fun _ => fun
  | [d1, d2, d3, d4] => { results := [.lit (.bool true)], args := [d1, d2, d3, d4] }
  | _ => none }
def balanceTurnsRow : OpenClaim := { program := "ytbamghnnnngdeaa", sum := "18d8056629f737df72ca3324610a61ae40b5ad26f2ada13a10af9afac18775ae", func := "routescope/routescopelaw10.BalanceTurns", spec := "balanceTurns", apart := false }
def BalanceTurnsSaid : Prop := balanceTurnsRow.holds Try.pinned (OpenSpec.ofChange balanceTurnsSpec)

/-- ITS FALSE NEIGHBOUR: 'it returns false'. Refute it at one input. -/
def balanceTurnsWrong : ChangeSpec := { name := "balanceTurns", fn := fun _ => fun
  | [d1, d2, d3, d4] => { results := [.lit (.bool false)], args := [d1, d2, d3, d4] }
  | _ => none }
def BalanceTurnsWrongFalsely : Prop := balanceTurnsRow.holds Try.pinned (OpenSpec.ofChange balanceTurnsWrong)

/-- 'routescopelaw11.IdentifierGrows': WHATEVER THE INPUT: true; the input reads as it did. -/
def identifierGrowsSpec : ChangeSpec := { name := "identifierGrows", fn := fun _ => fun
  | [d1, d2, d3] => { results := [.lit (.bool true)], args := [d1, d2, d3] }
  | _ => none }
def identifierGrowsRow : OpenClaim := { program := "ytbamghnnnngdeaa", sum := "18d8056629f737df72ca3324610a61ae40b5ad26f2ada13a10af9afac18775ae", func := "routescope/routescopelaw11.IdentifierGrows", spec := "identifierGrows", unfollowed := true, recurses := true, apart := false }
def IdentifierGrowsSaid : Prop := identifierGrowsRow.holds Try.pinned (OpenSpec.ofChange identifierGrowsSpec)

/-- ITS FALSE NEIGHBOUR: 'it returns false'. Refute it at one input. -/
def identifierGrowsWrong : ChangeSpec := { name := "identifierGrows", fn := fun _ => fun
  | [d1, d2, d3] => { results := [.lit (.bool false)], args := [d1, d2, d3] }
  | _ => none }
def IdentifierGrowsWrongFalsely : Prop := identifierGrowsRow.holds Try.pinned (OpenSpec.ofChange identifierGrowsWrong)

/-- 'routescopelaw11.IdentifierKinds': WHATEVER THE INPUT: true; the input reads as it did. -/
def identifierKindsSpec : ChangeSpec := { name := "identifierKinds", fn := fun _ => fun
  | [d1, d2, d3, d4, d5] => { results := [.lit (.bool true)], args := [d1, d2, d3, d4, d5] }
  | _ => none }
def identifierKindsRow : OpenClaim := { program := "ytbamghnnnngdeaa", sum := "18d8056629f737df72ca3324610a61ae40b5ad26f2ada13a10af9afac18775ae", func := "routescope/routescopelaw11.IdentifierKinds", spec := "identifierKinds", unfollowed := true, recurses := true, apart := false }
def IdentifierKindsSaid : Prop := identifierKindsRow.holds Try.pinned (OpenSpec.ofChange identifierKindsSpec)

/-- ITS FALSE NEIGHBOUR: 'it returns false'. Refute it at one input. -/
def identifierKindsWrong : ChangeSpec := { name := "identifierKinds", fn := fun _ => fun
  | [d1, d2, d3, d4, d5] => { results := [.lit (.bool false)], args := [d1, d2, d3, d4, d5] }
  | _ => none }
def IdentifierKindsWrongFalsely : Prop := identifierKindsRow.holds Try.pinned (OpenSpec.ofChange identifierKindsWrong)

/-- 'routescopelaw11.IdentifierExact': WHATEVER THE INPUT: true; the input reads as it did. -/
def identifierExactSpec : ChangeSpec := { name := "identifierExact", fn := fun _ => fun
  | [d1, d2, d3, d4, d5, d6] => { results := [.lit (.bool true)], args := [d1, d2, d3, d4, d5, d6] }
  | _ => none }
def identifierExactRow : OpenClaim := { program := "ytbamghnnnngdeaa", sum := "18d8056629f737df72ca3324610a61ae40b5ad26f2ada13a10af9afac18775ae", func := "routescope/routescopelaw11.IdentifierExact", spec := "identifierExact", unfollowed := true, recurses := true, apart := false }
def IdentifierExactSaid : Prop := identifierExactRow.holds Try.pinned (OpenSpec.ofChange identifierExactSpec)

/-- ITS FALSE NEIGHBOUR: 'it returns false'. Refute it at one input. -/
def identifierExactWrong : ChangeSpec := { name := "identifierExact", fn := fun _ => fun
  | [d1, d2, d3, d4, d5, d6] => { results := [.lit (.bool false)], args := [d1, d2, d3, d4, d5, d6] }
  | _ => none }
def IdentifierExactWrongFalsely : Prop := identifierExactRow.holds Try.pinned (OpenSpec.ofChange identifierExactWrong)

/- THE SECOND FORM. 'bulk': how many values and letters a reading holds, each counted each time it is reached (what is shared counts as often as it is met; a slice's spare places count too). A statement '..UptoSaid' is the law's where the arguments, and the package variables that the reading takes, are together of bulk at most 1048576: NARROWER than '..Said'. Prove '..Said' where nothing that the law and all that it calls make is longer than what came in: it says more and counts as full. Else prove '..UptoSaid'. A law counts once. -/
mutual
def uptoBulk {H : Type} : DataW H → Nat
  | .lit (.string bytes) => bytes.length + 1
  | .lit _ => 1
  | .nil => 1
  | .ptr d => uptoBulk d + 1
  | .slice elems spare => uptoBulkAll elems + uptoBulkAll spare + 1
  | .agg parts => uptoBulkAll parts + 1
  | .iface _ d => uptoBulk d + 1
  | .map entries => uptoBulkEntries entries + 1
  | .held _ => 1
def uptoBulkAll {H : Type} : List (DataW H) → Nat
  | [] => 0
  | d :: r => uptoBulk d + uptoBulkAll r
def uptoBulkEntries {H : Type} : List (Lit × DataW H) → Nat
  | [] => 0
  | x :: r => uptoBulkEntry x + uptoBulkEntries r
def uptoBulkEntry {H : Type} : Lit × DataW H → Nat
  | (.string bytes, d) => bytes.length + uptoBulk d + 1
  | (_, d) => uptoBulk d + 1
 end
def uptoSmall : (H : Type) → List (DataW H) → Bool := fun _ ds => decide (uptoBulkAll ds ≤ 1048576)
def OpenSpec.upto (s : _root_.Go.ChangeSpec) : _root_.Go.OpenSpec := { _root_.Go.OpenSpec.ofChange s with cond := some uptoSmall }

/-- 'routescopelaw10.BalanceBijective', WHERE WHAT IT READS IS OF BULK AT MOST 1048576: true; the input reads as it did. -/
def balanceBijectiveUptoRow : OpenClaim := { program := "ytbamghnnnngdeaa", sum := "18d8056629f737df72ca3324610a61ae40b5ad26f2ada13a10af9afac18775ae", func := "routescope/routescopelaw10.BalanceBijective", spec := "balanceBijective", apart := false, narrowed := true }
def BalanceBijectiveUptoSaid : Prop := balanceBijectiveUptoRow.holds Try.pinned (OpenSpec.upto balanceBijectiveSpec)

/-- 'routescopelaw12.BucketRefused', WHERE WHAT IT READS IS OF BULK AT MOST 1048576: true; the input reads as it did. -/
def bucketRefusedUptoRow : OpenClaim := { program := "ytbamghnnnngdeaa", sum := "18d8056629f737df72ca3324610a61ae40b5ad26f2ada13a10af9afac18775ae", func := "routescope/routescopelaw12.BucketRefused", spec := "bucketRefused", recurses := true, apart := false, narrowed := true }
def BucketRefusedUptoSaid : Prop := bucketRefusedUptoRow.holds Try.pinned (OpenSpec.upto bucketRefusedSpec)

/-- 'routescopelaw12.BucketWindow', WHERE WHAT IT READS IS OF BULK AT MOST 1048576: true; the input reads as it did. -/
def bucketWindowUptoRow : OpenClaim := { program := "ytbamghnnnngdeaa", sum := "18d8056629f737df72ca3324610a61ae40b5ad26f2ada13a10af9afac18775ae", func := "routescope/routescopelaw12.BucketWindow", spec := "bucketWindow", recurses := true, apart := false, narrowed := true }
def BucketWindowUptoSaid : Prop := bucketWindowUptoRow.holds Try.pinned (OpenSpec.upto bucketWindowSpec)

/-- 'routescopelaw12.BucketReady', WHERE WHAT IT READS IS OF BULK AT MOST 1048576: true; the input reads as it did. -/
def bucketReadyUptoRow : OpenClaim := { program := "ytbamghnnnngdeaa", sum := "18d8056629f737df72ca3324610a61ae40b5ad26f2ada13a10af9afac18775ae", func := "routescope/routescopelaw12.BucketReady", spec := "bucketReady", recurses := true, apart := false, narrowed := true }
def BucketReadyUptoSaid : Prop := bucketReadyUptoRow.holds Try.pinned (OpenSpec.upto bucketReadySpec)

/-- 'routescopelaw10.BalanceExact', WHERE WHAT IT READS IS OF BULK AT MOST 1048576: true; the input reads as it did. -/
def balanceExactUptoRow : OpenClaim := { program := "ytbamghnnnngdeaa", sum := "18d8056629f737df72ca3324610a61ae40b5ad26f2ada13a10af9afac18775ae", func := "routescope/routescopelaw10.BalanceExact", spec := "balanceExact", recurses := true, apart := false, narrowed := true }
def BalanceExactUptoSaid : Prop := balanceExactUptoRow.holds Try.pinned (OpenSpec.upto balanceExactSpec)

/-- 'routescopelaw10.BalanceKeys', WHERE WHAT IT READS IS OF BULK AT MOST 1048576: true; the input reads as it did. -/
def balanceKeysUptoRow : OpenClaim := { program := "ytbamghnnnngdeaa", sum := "18d8056629f737df72ca3324610a61ae40b5ad26f2ada13a10af9afac18775ae", func := "routescope/routescopelaw10.BalanceKeys", spec := "balanceKeys", recurses := true, apart := false, narrowed := true }
def BalanceKeysUptoSaid : Prop := balanceKeysUptoRow.holds Try.pinned (OpenSpec.upto balanceKeysSpec)

/-- 'routescopelaw10.BalanceTurns', WHERE WHAT IT READS IS OF BULK AT MOST 1048576: true; the input reads as it did. -/
def balanceTurnsUptoRow : OpenClaim := { program := "ytbamghnnnngdeaa", sum := "18d8056629f737df72ca3324610a61ae40b5ad26f2ada13a10af9afac18775ae", func := "routescope/routescopelaw10.BalanceTurns", spec := "balanceTurns", apart := false, narrowed := true }
def BalanceTurnsUptoSaid : Prop := balanceTurnsUptoRow.holds Try.pinned (OpenSpec.upto balanceTurnsSpec)

/-- 'routescopelaw11.IdentifierGrows', WHERE WHAT IT READS IS OF BULK AT MOST 1048576: true; the input reads as it did. -/
def identifierGrowsUptoRow : OpenClaim := { program := "ytbamghnnnngdeaa", sum := "18d8056629f737df72ca3324610a61ae40b5ad26f2ada13a10af9afac18775ae", func := "routescope/routescopelaw11.IdentifierGrows", spec := "identifierGrows", unfollowed := true, recurses := true, apart := false, narrowed := true }
def IdentifierGrowsUptoSaid : Prop := identifierGrowsUptoRow.holds Try.pinned (OpenSpec.upto identifierGrowsSpec)

/-- 'routescopelaw11.IdentifierKinds', WHERE WHAT IT READS IS OF BULK AT MOST 1048576: true; the input reads as it did. -/
def identifierKindsUptoRow : OpenClaim := { program := "ytbamghnnnngdeaa", sum := "18d8056629f737df72ca3324610a61ae40b5ad26f2ada13a10af9afac18775ae", func := "routescope/routescopelaw11.IdentifierKinds", spec := "identifierKinds", unfollowed := true, recurses := true, apart := false, narrowed := true }
def IdentifierKindsUptoSaid : Prop := identifierKindsUptoRow.holds Try.pinned (OpenSpec.upto identifierKindsSpec)

/-- 'routescopelaw11.IdentifierExact', WHERE WHAT IT READS IS OF BULK AT MOST 1048576: true; the input reads as it did. -/
def identifierExactUptoRow : OpenClaim := { program := "ytbamghnnnngdeaa", sum := "18d8056629f737df72ca3324610a61ae40b5ad26f2ada13a10af9afac18775ae", func := "routescope/routescopelaw11.IdentifierExact", spec := "identifierExact", unfollowed := true, recurses := true, apart := false, narrowed := true }
def IdentifierExactUptoSaid : Prop := identifierExactUptoRow.holds Try.pinned (OpenSpec.upto identifierExactSpec)

end Rows
end Go.Proofs.Ytbamghnnnngdeaa
