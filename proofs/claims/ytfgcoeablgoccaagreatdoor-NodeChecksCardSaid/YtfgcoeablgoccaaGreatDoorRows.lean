/-
  NARROWER THAN 'FOR EVERY INPUT', by the rows' own cells (each row's printed sentence says how): NodeChecks: laid · NodeHandles: laid · NodeLimits: laid · NodeQuiet: laid · NodeForwards: laid · NodeAnswers: laid.
  DERIVED. THE GIVEN ROWS OF THIS SEAT. 6 by the template 'for every input the law returns true; each argument reads behind the call as it read before'; 0 by the template 'total and deterministic' (their statements: YtfgcoeablgoccaaGreatDoorTotals.lean).
  GIVEN WITH THE SEED: the statements are not yours to turn. If you find one false, say at which input.
  Laid BY PROGRAM, IN A SANDBOX (cutbox-rows.mjs): the forced cells as the released guide's own fill.sh prints them over the translation 06661a50c7fb8c92… (all of the seat's roots in one cut). By AI agents, Wed Nov 11 2026. No macro, syntax, notation, axiom, sorry.
-/
import Derived.Test.YtfgcoeablgoccaaGreatDoorChecked
import GoSem.Claim
import GoSem.ClaimJoined
import GoSem.ClaimMapViews
import Derived.JoinedTies
import Derived.KernelRfl
namespace Go.Proofs.YtfgcoeablgoccaaGreatDoor
/- THE CELL 'sum', in the pinned program and in every row, IS THE sha256 OF THE DUMP (.gsa) THAT YtfgcoeablgoccaaGreatDoorProg.lean LOADS. Nothing in Lean hashes anything: it is a label: what it is worth is what the hold of that sum in a sandbox is worth. -/
noncomputable def Tryz.pinned : Pinned := { name := "ytfgcoeablgoccaagreatdoor", sum := "06661a50c7fb8c92cbb99db78f279fbc5c391c8b43707c49f0fc8821be8bc181", checked := Tryz.checked }
namespace Rows
def none {H : Type} : Left H := { results := [], args := [] }

/- WHAT THE LISTED PACKAGE-LEVEL VARIABLES READ AS WHEN THE CALL BEGINS. Each datum BY PROGRAM (the guide's laid-datum.mjs) off the statement by which the dump's own 'gosem.cut.vars' lays the variable. In a bare row this is a premise. The card (YtfgcoeablgoccaaGreatDoorCards.lean) ties it to the program's text. -/
def laid_routescope_address_blocks {H : Type} : DataW H := .agg [.agg [.agg [.lit (.int .u32 0), .lit (.int .i64 8)], .lit (.int .i64 1)], .agg [.agg [.lit (.int .u32 2130706432), .lit (.int .i64 8)], .lit (.int .i64 2)], .agg [.agg [.lit (.int .u32 167772160), .lit (.int .i64 8)], .lit (.int .i64 3)], .agg [.agg [.lit (.int .u32 2886729728), .lit (.int .i64 12)], .lit (.int .i64 3)], .agg [.agg [.lit (.int .u32 3232235520), .lit (.int .i64 16)], .lit (.int .i64 3)], .agg [.agg [.lit (.int .u32 2851995648), .lit (.int .i64 16)], .lit (.int .i64 4)], .agg [.agg [.lit (.int .u32 3758096384), .lit (.int .i64 4)], .lit (.int .i64 5)], .agg [.agg [.lit (.int .u32 4026531840), .lit (.int .i64 4)], .lit (.int .i64 6)]]

/-- 'routescopelaw13.NodeChecks': WHATEVER THE INPUT: true; the input reads as it did. -/
def nodeChecksSpec : ChangeSpec := { name := "nodeChecks", fn := fun _ => fun
  | [d1, d2, d3, d4] => { results := [.lit (.bool true)], args := [d1, d2, d3, d4] }
  | _ => none }
def nodeChecksRow : OpenClaim := { program := "ytfgcoeablgoccaagreatdoor", sum := "06661a50c7fb8c92cbb99db78f279fbc5c391c8b43707c49f0fc8821be8bc181", func := "routescope/routescopelaw13.NodeChecks", spec := "nodeChecks", unfollowed := true, recurses := true, named := ["routescope/address.blocks"], apart := false, laid := [("routescope/address.blocks", laid_routescope_address_blocks)] }
def NodeChecksSaid : Prop := nodeChecksRow.holds Tryz.pinned (OpenSpec.ofChange nodeChecksSpec)

/-- ITS FALSE NEIGHBOUR: 'it returns false'. Refute it at one input. -/
def nodeChecksWrong : ChangeSpec := { name := "nodeChecks", fn := fun _ => fun
  | [d1, d2, d3, d4] => { results := [.lit (.bool false)], args := [d1, d2, d3, d4] }
  | _ => none }
def NodeChecksWrongFalsely : Prop := nodeChecksRow.holds Tryz.pinned (OpenSpec.ofChange nodeChecksWrong)

/-- 'routescopelaw13.NodeHandles': WHATEVER THE INPUT: true; the input reads as it did. -/
def nodeHandlesSpec : ChangeSpec := { name := "nodeHandles", fn := fun _ => fun
  | [d1, d2] => { results := [.lit (.bool true)], args := [d1, d2] }
  | _ => none }
def nodeHandlesRow : OpenClaim := { program := "ytfgcoeablgoccaagreatdoor", sum := "06661a50c7fb8c92cbb99db78f279fbc5c391c8b43707c49f0fc8821be8bc181", func := "routescope/routescopelaw13.NodeHandles", spec := "nodeHandles", unfollowed := true, recurses := true, named := ["routescope/address.blocks"], apart := false, laid := [("routescope/address.blocks", laid_routescope_address_blocks)] }
def NodeHandlesSaid : Prop := nodeHandlesRow.holds Tryz.pinned (OpenSpec.ofChange nodeHandlesSpec)

/-- ITS FALSE NEIGHBOUR: 'it returns false'. Refute it at one input. -/
def nodeHandlesWrong : ChangeSpec := { name := "nodeHandles", fn := fun _ => fun
  | [d1, d2] => { results := [.lit (.bool false)], args := [d1, d2] }
  | _ => none }
def NodeHandlesWrongFalsely : Prop := nodeHandlesRow.holds Tryz.pinned (OpenSpec.ofChange nodeHandlesWrong)

/-- 'routescopelaw13.NodeLimits': WHATEVER THE INPUT: true; the input reads as it did. -/
def nodeLimitsSpec : ChangeSpec := { name := "nodeLimits", fn := fun _ => fun
  | [d1, d2, d3] => { results := [.lit (.bool true)], args := [d1, d2, d3] }
  | _ => none }
def nodeLimitsRow : OpenClaim := { program := "ytfgcoeablgoccaagreatdoor", sum := "06661a50c7fb8c92cbb99db78f279fbc5c391c8b43707c49f0fc8821be8bc181", func := "routescope/routescopelaw13.NodeLimits", spec := "nodeLimits", unfollowed := true, recurses := true, named := ["routescope/address.blocks"], apart := false, laid := [("routescope/address.blocks", laid_routescope_address_blocks)] }
def NodeLimitsSaid : Prop := nodeLimitsRow.holds Tryz.pinned (OpenSpec.ofChange nodeLimitsSpec)

/-- ITS FALSE NEIGHBOUR: 'it returns false'. Refute it at one input. -/
def nodeLimitsWrong : ChangeSpec := { name := "nodeLimits", fn := fun _ => fun
  | [d1, d2, d3] => { results := [.lit (.bool false)], args := [d1, d2, d3] }
  | _ => none }
def NodeLimitsWrongFalsely : Prop := nodeLimitsRow.holds Tryz.pinned (OpenSpec.ofChange nodeLimitsWrong)

/-- 'routescopelaw13.NodeQuiet': WHATEVER THE INPUT: true; the input reads as it did. -/
def nodeQuietSpec : ChangeSpec := { name := "nodeQuiet", fn := fun _ => fun
  | [d] => { results := [.lit (.bool true)], args := [d] }
  | _ => none }
def nodeQuietRow : OpenClaim := { program := "ytfgcoeablgoccaagreatdoor", sum := "06661a50c7fb8c92cbb99db78f279fbc5c391c8b43707c49f0fc8821be8bc181", func := "routescope/routescopelaw13.NodeQuiet", spec := "nodeQuiet", unfollowed := true, recurses := true, named := ["routescope/address.blocks"], apart := false, laid := [("routescope/address.blocks", laid_routescope_address_blocks)] }
def NodeQuietSaid : Prop := nodeQuietRow.holds Tryz.pinned (OpenSpec.ofChange nodeQuietSpec)

/-- ITS FALSE NEIGHBOUR: 'it returns false'. Refute it at one input. -/
def nodeQuietWrong : ChangeSpec := { name := "nodeQuiet", fn := fun _ => fun
  | [d] => { results := [.lit (.bool false)], args := [d] }
  | _ => none }
def NodeQuietWrongFalsely : Prop := nodeQuietRow.holds Tryz.pinned (OpenSpec.ofChange nodeQuietWrong)

/-- 'routescopelaw13.NodeForwards': WHATEVER THE INPUT: true; the input reads as it did. -/
def nodeForwardsSpec : ChangeSpec := { name := "nodeForwards", fn := fun _ => fun
  | [d1, d2] => { results := [.lit (.bool true)], args := [d1, d2] }
  | _ => none }
def nodeForwardsRow : OpenClaim := { program := "ytfgcoeablgoccaagreatdoor", sum := "06661a50c7fb8c92cbb99db78f279fbc5c391c8b43707c49f0fc8821be8bc181", func := "routescope/routescopelaw13.NodeForwards", spec := "nodeForwards", unfollowed := true, recurses := true, named := ["routescope/address.blocks"], apart := false, laid := [("routescope/address.blocks", laid_routescope_address_blocks)] }
def NodeForwardsSaid : Prop := nodeForwardsRow.holds Tryz.pinned (OpenSpec.ofChange nodeForwardsSpec)

/-- ITS FALSE NEIGHBOUR: 'it returns false'. Refute it at one input. -/
def nodeForwardsWrong : ChangeSpec := { name := "nodeForwards", fn := fun _ => fun
  | [d1, d2] => { results := [.lit (.bool false)], args := [d1, d2] }
  | _ => none }
def NodeForwardsWrongFalsely : Prop := nodeForwardsRow.holds Tryz.pinned (OpenSpec.ofChange nodeForwardsWrong)

/-- 'routescopelaw13.NodeAnswers': WHATEVER THE INPUT: true; the input reads as it did. -/
def nodeAnswersSpec : ChangeSpec := { name := "nodeAnswers", fn := fun _ => fun
  | [d] => { results := [.lit (.bool true)], args := [d] }
  | _ => none }
def nodeAnswersRow : OpenClaim := { program := "ytfgcoeablgoccaagreatdoor", sum := "06661a50c7fb8c92cbb99db78f279fbc5c391c8b43707c49f0fc8821be8bc181", func := "routescope/routescopelaw13.NodeAnswers", spec := "nodeAnswers", unfollowed := true, recurses := true, named := ["routescope/address.blocks"], apart := false, laid := [("routescope/address.blocks", laid_routescope_address_blocks)] }
def NodeAnswersSaid : Prop := nodeAnswersRow.holds Tryz.pinned (OpenSpec.ofChange nodeAnswersSpec)

/-- ITS FALSE NEIGHBOUR: 'it returns false'. Refute it at one input. -/
def nodeAnswersWrong : ChangeSpec := { name := "nodeAnswers", fn := fun _ => fun
  | [d] => { results := [.lit (.bool false)], args := [d] }
  | _ => none }
def NodeAnswersWrongFalsely : Prop := nodeAnswersRow.holds Tryz.pinned (OpenSpec.ofChange nodeAnswersWrong)

/- THE SECOND FORM. 'bulk': how many values and letters a reading holds, each counted each time it is reached (what is shared counts as often as it is met; a slice's spare places count too). A statement '..UptoSaid' is the law's where the arguments, and the package variables that the reading takes, are together of bulk at most 1048576: NARROWER than '..Said'. Prove '..Said' where nothing that the law and all that it calls make is longer than what came in: it says more and counts as full. Else prove '..UptoSaid'. A law counts once. -/
mutual
def uptoBulk {H : Type} : DataW H → Nat
  | .lit (.string bytes) => bytes.length + 1
  | .lit _ => 1
  | .nil => 1
  | .ptr d => uptoBulk d + 1
  | .slice elems spare => uptoBulkAll elems + uptoBulkAll spare + 1
  | .agg parts => uptoBulkAll parts + 1
  | .iface _ d => uptoBulk d + 1
  | .map entries => uptoBulkEntries entries + 1
  | .held _ => 1
def uptoBulkAll {H : Type} : List (DataW H) → Nat
  | [] => 0
  | d :: r => uptoBulk d + uptoBulkAll r
def uptoBulkEntries {H : Type} : List (Lit × DataW H) → Nat
  | [] => 0
  | x :: r => uptoBulkEntry x + uptoBulkEntries r
def uptoBulkEntry {H : Type} : Lit × DataW H → Nat
  | (.string bytes, d) => bytes.length + uptoBulk d + 1
  | (_, d) => uptoBulk d + 1
 end
def uptoSmall : (H : Type) → List (DataW H) → Bool := fun _ ds => decide (uptoBulkAll ds ≤ 1048576)
def OpenSpec.upto (s : _root_.Go.ChangeSpec) : _root_.Go.OpenSpec := { _root_.Go.OpenSpec.ofChange s with cond := some uptoSmall }

/-- 'routescopelaw13.NodeChecks', WHERE WHAT IT READS IS OF BULK AT MOST 1048576: true; the input reads as it did. -/
def nodeChecksUptoRow : OpenClaim := { program := "ytfgcoeablgoccaagreatdoor", sum := "06661a50c7fb8c92cbb99db78f279fbc5c391c8b43707c49f0fc8821be8bc181", func := "routescope/routescopelaw13.NodeChecks", spec := "nodeChecks", unfollowed := true, recurses := true, named := ["routescope/address.blocks"], apart := false, laid := [("routescope/address.blocks", laid_routescope_address_blocks)], narrowed := true }
def NodeChecksUptoSaid : Prop := nodeChecksUptoRow.holds Tryz.pinned (OpenSpec.upto nodeChecksSpec)

/-- 'routescopelaw13.NodeHandles', WHERE WHAT IT READS IS OF BULK AT MOST 1048576: true; the input reads as it did. -/
def nodeHandlesUptoRow : OpenClaim := { program := "ytfgcoeablgoccaagreatdoor", sum := "06661a50c7fb8c92cbb99db78f279fbc5c391c8b43707c49f0fc8821be8bc181", func := "routescope/routescopelaw13.NodeHandles", spec := "nodeHandles", unfollowed := true, recurses := true, named := ["routescope/address.blocks"], apart := false, laid := [("routescope/address.blocks", laid_routescope_address_blocks)], narrowed := true }
def NodeHandlesUptoSaid : Prop := nodeHandlesUptoRow.holds Tryz.pinned (OpenSpec.upto nodeHandlesSpec)

/-- 'routescopelaw13.NodeLimits', WHERE WHAT IT READS IS OF BULK AT MOST 1048576: true; the input reads as it did. -/
def nodeLimitsUptoRow : OpenClaim := { program := "ytfgcoeablgoccaagreatdoor", sum := "06661a50c7fb8c92cbb99db78f279fbc5c391c8b43707c49f0fc8821be8bc181", func := "routescope/routescopelaw13.NodeLimits", spec := "nodeLimits", unfollowed := true, recurses := true, named := ["routescope/address.blocks"], apart := false, laid := [("routescope/address.blocks", laid_routescope_address_blocks)], narrowed := true }
def NodeLimitsUptoSaid : Prop := nodeLimitsUptoRow.holds Tryz.pinned (OpenSpec.upto nodeLimitsSpec)

/-- 'routescopelaw13.NodeQuiet', WHERE WHAT IT READS IS OF BULK AT MOST 1048576: true; the input reads as it did. -/
def nodeQuietUptoRow : OpenClaim := { program := "ytfgcoeablgoccaagreatdoor", sum := "06661a50c7fb8c92cbb99db78f279fbc5c391c8b43707c49f0fc8821be8bc181", func := "routescope/routescopelaw13.NodeQuiet", spec := "nodeQuiet", unfollowed := true, recurses := true, named := ["routescope/address.blocks"], apart := false, laid := [("routescope/address.blocks", laid_routescope_address_blocks)], narrowed := true }
def NodeQuietUptoSaid : Prop := nodeQuietUptoRow.holds Tryz.pinned (OpenSpec.upto nodeQuietSpec)

/-- 'routescopelaw13.NodeForwards', WHERE WHAT IT READS IS OF BULK AT MOST 1048576: true; the input reads as it did. -/
def nodeForwardsUptoRow : OpenClaim := { program := "ytfgcoeablgoccaagreatdoor", sum := "06661a50c7fb8c92cbb99db78f279fbc5c391c8b43707c49f0fc8821be8bc181", func := "routescope/routescopelaw13.NodeForwards", spec := "nodeForwards", unfollowed := true, recurses := true, named := ["routescope/address.blocks"], apart := false, laid := [("routescope/address.blocks", laid_routescope_address_blocks)], narrowed := true }
def NodeForwardsUptoSaid : Prop := nodeForwardsUptoRow.holds Tryz.pinned (OpenSpec.upto nodeForwardsSpec)

/-- 'routescopelaw13.NodeAnswers', WHERE WHAT IT READS IS OF BULK AT MOST 1048576: true; the input reads as it did. -/
def nodeAnswersUptoRow : OpenClaim := { program := "ytfgcoeablgoccaagreatdoor", sum := "06661a50c7fb8c92cbb99db78f279fbc5c391c8b43707c49f0fc8821be8bc181", func := "routescope/routescopelaw13.NodeAnswers", spec := "nodeAnswers", unfollowed := true, recurses := true, named := ["routescope/address.blocks"], apart := false, laid := [("routescope/address.blocks", laid_routescope_address_blocks)], narrowed := true }
def NodeAnswersUptoSaid : Prop := nodeAnswersUptoRow.holds Tryz.pinned (OpenSpec.upto nodeAnswersSpec)

end Rows
end Go.Proofs.YtfgcoeablgoccaaGreatDoor
