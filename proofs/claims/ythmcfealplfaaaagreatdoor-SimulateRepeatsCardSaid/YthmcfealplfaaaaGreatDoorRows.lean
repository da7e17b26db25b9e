/-
  NARROWER THAN 'FOR EVERY INPUT', by the rows' own cells (each row's printed sentence says how): SimulateRepeats: laid · SimulateExact: laid · SimulateParts: laid · SimulateEnds: laid · TruthTraces: laid.
  DERIVED. THE GIVEN ROWS OF THIS SEAT. 5 by the template 'for every input the law returns true; each argument reads behind the call as it read before'; 0 by the template 'total and deterministic' (their statements: YthmcfealplfaaaaGreatDoorTotals.lean).
  GIVEN WITH THE SEED: the statements are not yours to turn. If you find one false, say at which input.
  Laid BY PROGRAM, IN A SANDBOX (cutbox-rows.mjs): the forced cells as the released guide's own fill.sh prints them over the translation f065e319262c9f75… (all of the seat's roots in one cut). By AI agents, Wed Nov 11 2026. No macro, syntax, notation, axiom, sorry.
-/
import Derived.Test.YthmcfealplfaaaaGreatDoorChecked
import GoSem.Claim
import GoSem.ClaimJoined
import GoSem.ClaimMapViews
import Derived.JoinedTies
import Derived.KernelRfl
namespace Go.Proofs.YthmcfealplfaaaaGreatDoor
/- THE CELL 'sum', in the pinned program and in every row, IS THE sha256 OF THE DUMP (.gsa) THAT YthmcfealplfaaaaGreatDoorProg.lean LOADS. Nothing in Lean hashes anything: it is a label: what it is worth is what the hold of that sum in a sandbox is worth. -/
noncomputable def Tryz.pinned : Pinned := { name := "ythmcfealplfaaaagreatdoor", sum := "f065e319262c9f758d75a3647500756c36358794da3cf22a416a5ca92805c4cc", checked := Tryz.checked }
namespace Rows
def none {H : Type} : Left H := { results := [], args := [] }

/- WHAT THE LISTED PACKAGE-LEVEL VARIABLES READ AS WHEN THE CALL BEGINS. Each datum BY PROGRAM (the guide's laid-datum.mjs) off the statement by which the dump's own 'gosem.cut.vars' lays the variable. In a bare row this is a premise. The card (YthmcfealplfaaaaGreatDoorCards.lean) ties it to the program's text. -/
def laid_routescope_address_blocks {H : Type} : DataW H := .agg [.agg [.agg [.lit (.int .u32 0), .lit (.int .i64 8)], .lit (.int .i64 1)], .agg [.agg [.lit (.int .u32 2130706432), .lit (.int .i64 8)], .lit (.int .i64 2)], .agg [.agg [.lit (.int .u32 167772160), .lit (.int .i64 8)], .lit (.int .i64 3)], .agg [.agg [.lit (.int .u32 2886729728), .lit (.int .i64 12)], .lit (.int .i64 3)], .agg [.agg [.lit (.int .u32 3232235520), .lit (.int .i64 16)], .lit (.int .i64 3)], .agg [.agg [.lit (.int .u32 2851995648), .lit (.int .i64 16)], .lit (.int .i64 4)], .agg [.agg [.lit (.int .u32 3758096384), .lit (.int .i64 4)], .lit (.int .i64 5)], .agg [.agg [.lit (.int .u32 4026531840), .lit (.int .i64 4)], .lit (.int .i64 6)]]

/-- 'routescopelaw15.SimulateRepeats': WHATEVER THE INPUT: true; the input reads as it did. -/
def simulateRepeatsSpec : ChangeSpec := { name := "simulateRepeats", fn := fun _ => fun
  | [d1, d2] => { results := [.lit (.bool true)], args := [d1, d2] }
  | _ => none }
def simulateRepeatsRow : OpenClaim := { program := "ythmcfealplfaaaagreatdoor", sum := "f065e319262c9f758d75a3647500756c36358794da3cf22a416a5ca92805c4cc", func := "routescope/routescopelaw15.SimulateRepeats", spec := "simulateRepeats", inPlace := ["slices.overlaps[routescope/api.Flight]"], unfollowed := true, recurses := true, named := ["routescope/address.blocks"], apart := false, laid := [("routescope/address.blocks", laid_routescope_address_blocks)] }
def SimulateRepeatsSaid : Prop := simulateRepeatsRow.holds Tryz.pinned (OpenSpec.ofChange simulateRepeatsSpec)

/-- ITS FALSE NEIGHBOUR: 'it returns false'. Refute it at one input. -/
def simulateRepeatsWrong : ChangeSpec := { name := "simulateRepeats", fn := fun _ => fun
  | [d1, d2] => { results := [.lit (.bool false)], args := [d1, d2] }
  | _ => none }
def SimulateRepeatsWrongFalsely : Prop := simulateRepeatsRow.holds Tryz.pinned (OpenSpec.ofChange simulateRepeatsWrong)

/-- 'routescopelaw15.SimulateExact': WHATEVER THE INPUT: true; the input reads as it did. -/
def simulateExactSpec : ChangeSpec := { name := "simulateExact", fn := fun _ => fun
  | [d1, d2, d3, d4] => { results := [.lit (.bool true)], args := [d1, d2, d3, d4] }
  | _ => none }
def simulateExactRow : OpenClaim := { program := "ythmcfealplfaaaagreatdoor", sum := "f065e319262c9f758d75a3647500756c36358794da3cf22a416a5ca92805c4cc", func := "routescope/routescopelaw15.SimulateExact", spec := "simulateExact", inPlace := ["slices.overlaps[routescope/api.Flight]"], unfollowed := true, recurses := true, named := ["routescope/address.blocks"], apart := false, laid := [("routescope/address.blocks", laid_routescope_address_blocks)] }
def SimulateExactSaid : Prop := simulateExactRow.holds Tryz.pinned (OpenSpec.ofChange simulateExactSpec)

/-- ITS FALSE NEIGHBOUR: 'it returns false'. Refute it at one input. -/
def simulateExactWrong : ChangeSpec := { name := "simulateExact", fn := fun _ => fun
  | [d1, d2, d3, d4] => { results := [.lit (.bool false)], args := [d1, d2, d3, d4] }
  | _ => none }
def SimulateExactWrongFalsely : Prop := simulateExactRow.holds Tryz.pinned (OpenSpec.ofChange simulateExactWrong)

/-- 'routescopelaw15.SimulateParts': WHATEVER THE INPUT: true; the input reads as it did. -/
def simulatePartsSpec : ChangeSpec := { name := "simulateParts", fn := fun _ => fun
  | [d1, d2, d3] => { results := [.lit (.bool true)], args := [d1, d2, d3] }
  | _ => none }
def simulatePartsRow : OpenClaim := { program := "ythmcfealplfaaaagreatdoor", sum := "f065e319262c9f758d75a3647500756c36358794da3cf22a416a5ca92805c4cc", func := "routescope/routescopelaw15.SimulateParts", spec := "simulateParts", inPlace := ["slices.overlaps[routescope/api.Flight]"], unfollowed := true, recurses := true, named := ["routescope/address.blocks"], apart := false, laid := [("routescope/address.blocks", laid_routescope_address_blocks)] }
def SimulatePartsSaid : Prop := simulatePartsRow.holds Tryz.pinned (OpenSpec.ofChange simulatePartsSpec)

/-- ITS FALSE NEIGHBOUR: 'it returns false'. Refute it at one input. -/
def simulatePartsWrong : ChangeSpec := { name := "simulateParts", fn := fun _ => fun
  | [d1, d2, d3] => { results := [.lit (.bool false)], args := [d1, d2, d3] }
  | _ => none }
def SimulatePartsWrongFalsely : Prop := simulatePartsRow.holds Tryz.pinned (OpenSpec.ofChange simulatePartsWrong)

/-- 'routescopelaw15.SimulateEnds': WHATEVER THE INPUT: true; the input reads as it did. -/
def simulateEndsSpec : ChangeSpec := { name := "simulateEnds", fn := fun _ => fun
  | [d] => { results := [.lit (.bool true)], args := [d] }
  | _ => none }
def simulateEndsRow : OpenClaim := { program := "ythmcfealplfaaaagreatdoor", sum := "f065e319262c9f758d75a3647500756c36358794da3cf22a416a5ca92805c4cc", func := "routescope/routescopelaw15.SimulateEnds", spec := "simulateEnds", inPlace := ["slices.overlaps[routescope/api.Flight]"], unfollowed := true, recurses := true, named := ["routescope/address.blocks"], apart := false, laid := [("routescope/address.blocks", laid_routescope_address_blocks)] }
def SimulateEndsSaid : Prop := simulateEndsRow.holds Tryz.pinned (OpenSpec.ofChange simulateEndsSpec)

/-- ITS FALSE NEIGHBOUR: 'it returns false'. Refute it at one input. -/
def simulateEndsWrong : ChangeSpec := { name := "simulateEnds", fn := fun _ => fun
  | [d] => { results := [.lit (.bool false)], args := [d] }
  | _ => none }
def SimulateEndsWrongFalsely : Prop := simulateEndsRow.holds Tryz.pinned (OpenSpec.ofChange simulateEndsWrong)

/-- 'routescopelaw16.TruthTraces': WHATEVER THE INPUT: true; the input reads as it did. -/
def truthTracesSpec : ChangeSpec := { name := "truthTraces", fn := fun _ => fun
  | [d1, d2] => { results := [.lit (.bool true)], args := [d1, d2] }
  | _ => none }
def truthTracesRow : OpenClaim := { program := "ythmcfealplfaaaagreatdoor", sum := "f065e319262c9f758d75a3647500756c36358794da3cf22a416a5ca92805c4cc", func := "routescope/routescopelaw16.TruthTraces", spec := "truthTraces", inPlace := ["slices.overlaps[routescope/api.Flight]"], unfollowed := true, recurses := true, named := ["routescope/address.blocks"], apart := false, laid := [("routescope/address.blocks", laid_routescope_address_blocks)] }
def TruthTracesSaid : Prop := truthTracesRow.holds Tryz.pinned (OpenSpec.ofChange truthTracesSpec)

/-- ITS FALSE NEIGHBOUR: 'it returns false'. Refute it at one input. -/
def truthTracesWrong : ChangeSpec := { name := "truthTraces", fn := fun _ => fun
  | [d1, d2] => { results := [.lit (.bool false)], args := [d1, d2] }
  | _ => none }
def TruthTracesWrongFalsely : Prop := truthTracesRow.holds Tryz.pinned (OpenSpec.ofChange truthTracesWrong)

/- THE SECOND FORM. 'bulk': how many values and letters a reading holds, each counted each time it is reached (what is shared counts as often as it is met; a slice's spare places count too). A statement '..UptoSaid' is the law's where the arguments, and the package variables that the reading takes, are together of bulk at most 1048576: NARROWER than '..Said'. Prove '..Said' where nothing that the law and all that it calls make is longer than what came in: it says more and counts as full. Else prove '..UptoSaid'. A law counts once. -/
mutual
def uptoBulk {H : Type} : DataW H → Nat
  | .lit (.string bytes) => bytes.length + 1
  | .lit _ => 1
  | .nil => 1
  | .ptr d => uptoBulk d + 1
  | .slice elems spare => uptoBulkAll elems + uptoBulkAll spare + 1
  | .agg parts => uptoBulkAll parts + 1
  | .iface _ d => uptoBulk d + 1
  | .map entries => uptoBulkEntries entries + 1
  | .held _ => 1
def uptoBulkAll {H : Type} : List (DataW H) → Nat
  | [] => 0
  | d :: r => uptoBulk d + uptoBulkAll r
def uptoBulkEntries {H : Type} : List (Lit × DataW H) → Nat
  | [] => 0
  | x :: r => uptoBulkEntry x + uptoBulkEntries r
def uptoBulkEntry {H : Type} : Lit × DataW H → Nat
  | (.string bytes, d) => bytes.length + uptoBulk d + 1
  | (_, d) => uptoBulk d + 1
 end
def uptoSmall : (H : Type) → List (DataW H) → Bool := fun _ ds => decide (uptoBulkAll ds ≤ 1048576)
def OpenSpec.upto (s : _root_.Go.ChangeSpec) : _root_.Go.OpenSpec := { _root_.Go.OpenSpec.ofChange s with cond := some uptoSmall }

/-- 'routescopelaw15.SimulateRepeats', WHERE WHAT IT READS IS OF BULK AT MOST 1048576: true; the input reads as it did. -/
def simulateRepeatsUptoRow : OpenClaim := { program := "ythmcfealplfaaaagreatdoor", sum := "f065e319262c9f758d75a3647500756c36358794da3cf22a416a5ca92805c4cc", func := "routescope/routescopelaw15.SimulateRepeats", spec := "simulateRepeats", inPlace := ["slices.overlaps[routescope/api.Flight]"], unfollowed := true, recurses := true, named := ["routescope/address.blocks"], apart := false, laid := [("routescope/address.blocks", laid_routescope_address_blocks)], narrowed := true }
def SimulateRepeatsUptoSaid : Prop := simulateRepeatsUptoRow.holds Tryz.pinned (OpenSpec.upto simulateRepeatsSpec)

/-- 'routescopelaw15.SimulateExact', WHERE WHAT IT READS IS OF BULK AT MOST 1048576: true; the input reads as it did. -/
def simulateExactUptoRow : OpenClaim := { program := "ythmcfealplfaaaagreatdoor", sum := "f065e319262c9f758d75a3647500756c36358794da3cf22a416a5ca92805c4cc", func := "routescope/routescopelaw15.SimulateExact", spec := "simulateExact", inPlace := ["slices.overlaps[routescope/api.Flight]"], unfollowed := true, recurses := true, named := ["routescope/address.blocks"], apart := false, laid := [("routescope/address.blocks", laid_routescope_address_blocks)], narrowed := true }
def SimulateExactUptoSaid : Prop := simulateExactUptoRow.holds Tryz.pinned (OpenSpec.upto simulateExactSpec)

/-- 'routescopelaw15.SimulateParts', WHERE WHAT IT READS IS OF BULK AT MOST 1048576: true; the input reads as it did. -/
def simulatePartsUptoRow : OpenClaim := { program := "ythmcfealplfaaaagreatdoor", sum := "f065e319262c9f758d75a3647500756c36358794da3cf22a416a5ca92805c4cc", func := "routescope/routescopelaw15.SimulateParts", spec := "simulateParts", inPlace := ["slices.overlaps[routescope/api.Flight]"], unfollowed := true, recurses := true, named := ["routescope/address.blocks"], apart := false, laid := [("routescope/address.blocks", laid_routescope_address_blocks)], narrowed := true }
def SimulatePartsUptoSaid : Prop := simulatePartsUptoRow.holds Tryz.pinned (OpenSpec.upto simulatePartsSpec)

/-- 'routescopelaw15.SimulateEnds', WHERE WHAT IT READS IS OF BULK AT MOST 1048576: true; the input reads as it did. -/
def simulateEndsUptoRow : OpenClaim := { program := "ythmcfealplfaaaagreatdoor", sum := "f065e319262c9f758d75a3647500756c36358794da3cf22a416a5ca92805c4cc", func := "routescope/routescopelaw15.SimulateEnds", spec := "simulateEnds", inPlace := ["slices.overlaps[routescope/api.Flight]"], unfollowed := true, recurses := true, named := ["routescope/address.blocks"], apart := false, laid := [("routescope/address.blocks", laid_routescope_address_blocks)], narrowed := true }
def SimulateEndsUptoSaid : Prop := simulateEndsUptoRow.holds Tryz.pinned (OpenSpec.upto simulateEndsSpec)

/-- 'routescopelaw16.TruthTraces', WHERE WHAT IT READS IS OF BULK AT MOST 1048576: true; the input reads as it did. -/
def truthTracesUptoRow : OpenClaim := { program := "ythmcfealplfaaaagreatdoor", sum := "f065e319262c9f758d75a3647500756c36358794da3cf22a416a5ca92805c4cc", func := "routescope/routescopelaw16.TruthTraces", spec := "truthTraces", inPlace := ["slices.overlaps[routescope/api.Flight]"], unfollowed := true, recurses := true, named := ["routescope/address.blocks"], apart := false, laid := [("routescope/address.blocks", laid_routescope_address_blocks)], narrowed := true }
def TruthTracesUptoSaid : Prop := truthTracesUptoRow.holds Tryz.pinned (OpenSpec.upto truthTracesSpec)

end Rows
end Go.Proofs.YthmcfealplfaaaaGreatDoor
