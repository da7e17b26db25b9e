/-
  NARROWER THAN 'FOR EVERY INPUT', by the rows' own cells (each row's printed sentence says how): TruthTraces: laid.
  DERIVED. THE GIVEN ROWS OF THIS SEAT. 1 by the template 'for every input the law returns true; each argument reads behind the call as it read before'; 0 by the template 'total and deterministic' (their statements: YtpdpkobkpacbnaaGreatDoorTotals.lean).
  GIVEN WITH THE SEED: the statements are not yours to turn. If you find one false, say at which input.
  Laid BY PROGRAM, IN A SANDBOX (cutbox-rows.mjs): the forced cells as the released guide's own fill.sh prints them over the translation 1645d0246ff92fb1… (all of the seat's roots in one cut). By AI agents, Wed Nov 11 2026. No macro, syntax, notation, axiom, sorry.
-/
import Derived.Test.YtpdpkobkpacbnaaGreatDoorChecked
import GoSem.Claim
import GoSem.ClaimJoined
import GoSem.ClaimMapViews
import Derived.JoinedTies
import Derived.KernelRfl
namespace Go.Proofs.YtpdpkobkpacbnaaGreatDoor
/- THE CELL 'sum', in the pinned program and in every row, IS THE sha256 OF THE DUMP (.gsa) THAT YtpdpkobkpacbnaaGreatDoorProg.lean LOADS. Nothing in Lean hashes anything: it is a label: what it is worth is what the hold of that sum in a sandbox is worth. -/
noncomputable def Tryz.pinned : Pinned := { name := "ytpdpkobkpacbnaagreatdoor", sum := "1645d0246ff92fb1c309087a97ff37384f01734b8962fd6db36d78971e36e779", checked := Tryz.checked }
namespace Rows
def none {H : Type} : Left H := { results := [], args := [] }

/- WHAT THE LISTED PACKAGE-LEVEL VARIABLES READ AS WHEN THE CALL BEGINS. Each datum BY PROGRAM (the guide's laid-datum.mjs) off the statement by which the dump's own 'gosem.cut.vars' lays the variable. In a bare row this is a premise. The card (YtpdpkobkpacbnaaGreatDoorCards.lean) ties it to the program's text. -/
def laid_routescope_address_blocks {H : Type} : DataW H := .agg [.agg [.agg [.lit (.int .u32 0), .lit (.int .i64 8)], .lit (.int .i64 1)], .agg [.agg [.lit (.int .u32 2130706432), .lit (.int .i64 8)], .lit (.int .i64 2)], .agg [.agg [.lit (.int .u32 167772160), .lit (.int .i64 8)], .lit (.int .i64 3)], .agg [.agg [.lit (.int .u32 2886729728), .lit (.int .i64 12)], .lit (.int .i64 3)], .agg [.agg [.lit (.int .u32 3232235520), .lit (.int .i64 16)], .lit (.int .i64 3)], .agg [.agg [.lit (.int .u32 2851995648), .lit (.int .i64 16)], .lit (.int .i64 4)], .agg [.agg [.lit (.int .u32 3758096384), .lit (.int .i64 4)], .lit (.int .i64 5)], .agg [.agg [.lit (.int .u32 4026531840), .lit (.int .i64 4)], .lit (.int .i64 6)]]

/-- 'routescopelaw16.TruthTraces': WHATEVER THE INPUT: true; the input reads as it did. -/
def truthTracesSpec : ChangeSpec := { name := "truthTraces", fn := fun _ => fun
  | [d1, d2] => { results := [.lit (.bool true)], args := [d1, d2] }
  | _ => none }
def truthTracesRow : OpenClaim := { program := "ytpdpkobkpacbnaagreatdoor", sum := "1645d0246ff92fb1c309087a97ff37384f01734b8962fd6db36d78971e36e779", func := "routescope/routescopelaw16.TruthTraces", spec := "truthTraces", inPlace := ["slices.overlaps[routescope/api.Flight]"], unfollowed := true, recurses := true, named := ["routescope/address.blocks"], apart := false, laid := [("routescope/address.blocks", laid_routescope_address_blocks)] }
def TruthTracesSaid : Prop := truthTracesRow.holds Tryz.pinned (OpenSpec.ofChange truthTracesSpec)

/-- ITS FALSE NEIGHBOUR: 'it returns false'. Refute it at one input. -/
def truthTracesWrong : ChangeSpec := { name := "truthTraces", fn := fun _ => fun
  | [d1, d2] => { results := [.lit (.bool false)], args := [d1, d2] }
  | _ => none }
def TruthTracesWrongFalsely : Prop := truthTracesRow.holds Tryz.pinned (OpenSpec.ofChange truthTracesWrong)

/- THE SECOND FORM. 'bulk': how many values and letters a reading holds, each counted each time it is reached (what is shared counts as often as it is met; a slice's spare places count too). A statement '..UptoSaid' is the law's where the arguments, and the package variables that the reading takes, are together of bulk at most 1048576: NARROWER than '..Said'. Prove '..Said' where nothing that the law and all that it calls make is longer than what came in: it says more and counts as full. Else prove '..UptoSaid'. A law counts once. -/
mutual
def uptoBulk {H : Type} : DataW H → Nat
  | .lit (.string bytes) => bytes.length + 1
  | .lit _ => 1
  | .nil => 1
  | .ptr d => uptoBulk d + 1
  | .slice elems spare => uptoBulkAll elems + uptoBulkAll spare + 1
  | .agg parts => uptoBulkAll parts + 1
  | .iface _ d => uptoBulk d + 1
  | .map entries => uptoBulkEntries entries + 1
  | .held _ => 1
def uptoBulkAll {H : Type} : List (DataW H) → Nat
  | [] => 0
  | d :: r => uptoBulk d + uptoBulkAll r
def uptoBulkEntries {H : Type} : List (Lit × DataW H) → Nat
  | [] => 0
  | x :: r => uptoBulkEntry x + uptoBulkEntries r
def uptoBulkEntry {H : Type} : Lit × DataW H → Nat
  | (.string bytes, d) => bytes.length + uptoBulk d + 1
  | (_, d) => uptoBulk d + 1
 end
def uptoSmall : (H : Type) → List (DataW H) → Bool := fun _ ds => decide (uptoBulkAll ds ≤ 1048576)
def OpenSpec.upto (s : _root_.Go.ChangeSpec) : _root_.Go.OpenSpec := { _root_.Go.OpenSpec.ofChange s with cond := some uptoSmall }

/-- 'routescopelaw16.TruthTraces', WHERE WHAT IT READS IS OF BULK AT MOST 1048576: true; the input reads as it did. -/
def truthTracesUptoRow : OpenClaim := { program := "ytpdpkobkpacbnaagreatdoor", sum := "1645d0246ff92fb1c309087a97ff37384f01734b8962fd6db36d78971e36e779", func := "routescope/routescopelaw16.TruthTraces", spec := "truthTraces", inPlace := ["slices.overlaps[routescope/api.Flight]"], unfollowed := true, recurses := true, named := ["routescope/address.blocks"], apart := false, laid := [("routescope/address.blocks", laid_routescope_address_blocks)], narrowed := true }
def TruthTracesUptoSaid : Prop := truthTracesUptoRow.holds Tryz.pinned (OpenSpec.upto truthTracesSpec)

end Rows
end Go.Proofs.YtpdpkobkpacbnaaGreatDoor
