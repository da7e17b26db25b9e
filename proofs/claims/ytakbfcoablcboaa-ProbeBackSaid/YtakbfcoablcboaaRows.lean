/-
  No cell of these rows narrows 'for every input' (looked for: loops, veiled, ifaces, maps, wideKeys, modest, calm, conditions, laid).
  DERIVED. THE GIVEN ROWS OF THIS SEAT. 5 by the template 'for every input the law returns true; each argument reads behind the call as it read before'; 0 by the template 'total and deterministic' (their statements: YtakbfcoablcboaaTotals.lean).
  GIVEN WITH THE SEED: the statements are not yours to turn. If you find one false, say at which input.
  Laid BY PROGRAM, IN A SANDBOX (cutbox-rows.mjs): the forced cells as the released guide's own fill.sh prints them over the translation 883e3316fbb749eb… (all of the seat's roots in one cut). By AI agents, Wed Nov 11 2026. No macro, syntax, notation, axiom, sorry.
-/
import Derived.Test.YtakbfcoablcboaaChecked
import GoSem.Claim
import GoSem.ClaimJoined
import GoSem.ClaimMapViews
import Derived.JoinedTies
import Derived.KernelRfl
namespace Go.Proofs.Ytakbfcoablcboaa
/- THE CELL 'sum', in the pinned program and in every row, IS THE sha256 OF THE DUMP (.gsa) THAT YtakbfcoablcboaaProg.lean LOADS. Nothing in Lean hashes anything: it is a label: what it is worth is what the hold of that sum in a sandbox is worth. -/
noncomputable def Try.pinned : Pinned := { name := "ytakbfcoablcboaa", sum := "883e3316fbb749ebc23a7aed5914f3b0ee6e56d8c8139817ae048d612f28acf7", checked := Try.checked }
namespace Rows
def none {H : Type} : Left H := { results := [], args := [] }

/-- 'routescopelaw07.ProbeFlows': WHATEVER THE INPUT: true; the input reads as it did. -/
def probeFlowsSpec : ChangeSpec := { name := "probeFlows", fn := fun _ => fun
  | [d1, d2, d3, d4] => { results := [.lit (.bool true)], args := [d1, d2, d3, d4] }
  | _ => none }
def probeFlowsRow : OpenClaim := { program := "ytakbfcoablcboaa", sum := "883e3316fbb749ebc23a7aed5914f3b0ee6e56d8c8139817ae048d612f28acf7", func := "routescope/routescopelaw07.ProbeFlows", spec := "probeFlows", unfollowed := true, recurses := true, apart := false }
def ProbeFlowsSaid : Prop := probeFlowsRow.holds Try.pinned (OpenSpec.ofChange probeFlowsSpec)

/-- ITS FALSE NEIGHBOUR: 'it returns false'. Refute it at one input. -/
def probeFlowsWrong : ChangeSpec := { name := "probeFlows", fn := fun _ => fun
  | [d1, d2, d3, d4] => { results := [.lit (.bool false)], args := [d1, d2, d3, d4] }
  | _ => none }
def ProbeFlowsWrongFalsely : Prop := probeFlowsRow.holds Try.pinned (OpenSpec.ofChange probeFlowsWrong)

/-- 'routescopelaw07.ProbeDiffer': WHATEVER THE INPUT: true; the input reads as it did. -/
def probeDifferSpec : ChangeSpec := { name := "probeDiffer", fn := fun _ => fun
  | [d] => { results := [.lit (.bool true)], args := [d] }
  | _ => none }
def probeDifferRow : OpenClaim := { program := "ytakbfcoablcboaa", sum := "883e3316fbb749ebc23a7aed5914f3b0ee6e56d8c8139817ae048d612f28acf7", func := "routescope/routescopelaw07.ProbeDiffer", spec := "probeDiffer", unfollowed := true, recurses := true, apart := false }
def ProbeDifferSaid : Prop := probeDifferRow.holds Try.pinned (OpenSpec.ofChange probeDifferSpec)

/-- ITS FALSE NEIGHBOUR: 'it returns false'. Refute it at one input. -/
def probeDifferWrong : ChangeSpec := { name := "probeDiffer", fn := fun _ => fun
  | [d] => { results := [.lit (.bool false)], args := [d] }
  | _ => none }
def ProbeDifferWrongFalsely : Prop := probeDifferRow.holds Try.pinned (OpenSpec.ofChange probeDifferWrong)

/-- 'routescopelaw07.ProbeExact': WHATEVER THE INPUT: true; the input reads as it did. -/
def probeExactSpec : ChangeSpec := { name := "probeExact", fn := fun _ => fun
  | [d1, d2, d3] => { results := [.lit (.bool true)], args := [d1, d2, d3] }
  | _ => none }
def probeExactRow : OpenClaim := { program := "ytakbfcoablcboaa", sum := "883e3316fbb749ebc23a7aed5914f3b0ee6e56d8c8139817ae048d612f28acf7", func := "routescope/routescopelaw07.ProbeExact", spec := "probeExact", unfollowed := true, recurses := true, apart := false }
def ProbeExactSaid : Prop := probeExactRow.holds Try.pinned (OpenSpec.ofChange probeExactSpec)

/-- ITS FALSE NEIGHBOUR: 'it returns false'. Refute it at one input. -/
def probeExactWrong : ChangeSpec := { name := "probeExact", fn := fun _ => fun
  | [d1, d2, d3] => { results := [.lit (.bool false)], args := [d1, d2, d3] }
  | _ => none }
def ProbeExactWrongFalsely : Prop := probeExactRow.holds Try.pinned (OpenSpec.ofChange probeExactWrong)

/-- 'routescopelaw07.ProbeBack': WHATEVER THE INPUT: true; the input reads as it did. -/
def probeBackSpec : ChangeSpec := { name := "probeBack", fn := fun _ => fun
  | [d] => { results := [.lit (.bool true)], args := [d] }
  | _ => none }
def probeBackRow : OpenClaim := { program := "ytakbfcoablcboaa", sum := "883e3316fbb749ebc23a7aed5914f3b0ee6e56d8c8139817ae048d612f28acf7", func := "routescope/routescopelaw07.ProbeBack", spec := "probeBack", unfollowed := true, recurses := true, apart := false }
def ProbeBackSaid : Prop := probeBackRow.holds Try.pinned (OpenSpec.ofChange probeBackSpec)

/-- ITS FALSE NEIGHBOUR: 'it returns false'. Refute it at one input. -/
def probeBackWrong : ChangeSpec := { name := "probeBack", fn := fun _ => fun
  | [d] => { results := [.lit (.bool false)], args := [d] }
  | _ => none }
def ProbeBackWrongFalsely : Prop := probeBackRow.holds Try.pinned (OpenSpec.ofChange probeBackWrong)

/-- 'routescopelaw07.ProbeCarries': WHATEVER THE INPUT: true; the input reads as it did. -/
def probeCarriesSpec : ChangeSpec := { name := "probeCarries", fn := fun _ => fun
  | [d] => { results := [.lit (.bool true)], args := [d] }
  | _ => none }
def probeCarriesRow : OpenClaim := { program := "ytakbfcoablcboaa", sum := "883e3316fbb749ebc23a7aed5914f3b0ee6e56d8c8139817ae048d612f28acf7", func := "routescope/routescopelaw07.ProbeCarries", spec := "probeCarries", unfollowed := true, recurses := true, apart := false }
def ProbeCarriesSaid : Prop := probeCarriesRow.holds Try.pinned (OpenSpec.ofChange probeCarriesSpec)

/-- ITS FALSE NEIGHBOUR: 'it returns false'. Refute it at one input. -/
def probeCarriesWrong : ChangeSpec := { name := "probeCarries", fn := fun _ => fun
  | [d] => { results := [.lit (.bool false)], args := [d] }
  | _ => none }
def ProbeCarriesWrongFalsely : Prop := probeCarriesRow.holds Try.pinned (OpenSpec.ofChange probeCarriesWrong)

/- THE SECOND FORM. 'bulk': how many values and letters a reading holds, each counted each time it is reached (what is shared counts as often as it is met; a slice's spare places count too). A statement '..UptoSaid' is the law's where the arguments, and the package variables that the reading takes, are together of bulk at most 1048576: NARROWER than '..Said'. Prove '..Said' where nothing that the law and all that it calls make is longer than what came in: it says more and counts as full. Else prove '..UptoSaid'. A law counts once. -/
mutual
def uptoBulk {H : Type} : DataW H → Nat
  | .lit (.string bytes) => bytes.length + 1
  | .lit _ => 1
  | .nil => 1
  | .ptr d => uptoBulk d + 1
  | .slice elems spare => uptoBulkAll elems + uptoBulkAll spare + 1
  | .agg parts => uptoBulkAll parts + 1
  | .iface _ d => uptoBulk d + 1
  | .map entries => uptoBulkEntries entries + 1
  | .held _ => 1
def uptoBulkAll {H : Type} : List (DataW H) → Nat
  | [] => 0
  | d :: r => uptoBulk d + uptoBulkAll r
def uptoBulkEntries {H : Type} : List (Lit × DataW H) → Nat
  | [] => 0
  | x :: r => uptoBulkEntry x + uptoBulkEntries r
def uptoBulkEntry {H : Type} : Lit × DataW H → Nat
  | (.string bytes, d) => bytes.length + uptoBulk d + 1
  | (_, d) => uptoBulk d + 1
 end
def uptoSmall : (H : Type) → List (DataW H) → Bool := fun _ ds => decide (uptoBulkAll ds ≤ 1048576)
def OpenSpec.upto (s : _root_.Go.ChangeSpec) : _root_.Go.OpenSpec := { _root_.Go.OpenSpec.ofChange s with cond := some uptoSmall }

/-- 'routescopelaw07.ProbeFlows', WHERE WHAT IT READS IS OF BULK AT MOST 1048576: true; the input reads as it did. -/
def probeFlowsUptoRow : OpenClaim := { program := "ytakbfcoablcboaa", sum := "883e3316fbb749ebc23a7aed5914f3b0ee6e56d8c8139817ae048d612f28acf7", func := "routescope/routescopelaw07.ProbeFlows", spec := "probeFlows", unfollowed := true, recurses := true, apart := false, narrowed := true }
def ProbeFlowsUptoSaid : Prop := probeFlowsUptoRow.holds Try.pinned (OpenSpec.upto probeFlowsSpec)

/-- 'routescopelaw07.ProbeDiffer', WHERE WHAT IT READS IS OF BULK AT MOST 1048576: true; the input reads as it did. -/
def probeDifferUptoRow : OpenClaim := { program := "ytakbfcoablcboaa", sum := "883e3316fbb749ebc23a7aed5914f3b0ee6e56d8c8139817ae048d612f28acf7", func := "routescope/routescopelaw07.ProbeDiffer", spec := "probeDiffer", unfollowed := true, recurses := true, apart := false, narrowed := true }
def ProbeDifferUptoSaid : Prop := probeDifferUptoRow.holds Try.pinned (OpenSpec.upto probeDifferSpec)

/-- 'routescopelaw07.ProbeExact', WHERE WHAT IT READS IS OF BULK AT MOST 1048576: true; the input reads as it did. -/
def probeExactUptoRow : OpenClaim := { program := "ytakbfcoablcboaa", sum := "883e3316fbb749ebc23a7aed5914f3b0ee6e56d8c8139817ae048d612f28acf7", func := "routescope/routescopelaw07.ProbeExact", spec := "probeExact", unfollowed := true, recurses := true, apart := false, narrowed := true }
def ProbeExactUptoSaid : Prop := probeExactUptoRow.holds Try.pinned (OpenSpec.upto probeExactSpec)

/-- 'routescopelaw07.ProbeBack', WHERE WHAT IT READS IS OF BULK AT MOST 1048576: true; the input reads as it did. -/
def probeBackUptoRow : OpenClaim := { program := "ytakbfcoablcboaa", sum := "883e3316fbb749ebc23a7aed5914f3b0ee6e56d8c8139817ae048d612f28acf7", func := "routescope/routescopelaw07.ProbeBack", spec := "probeBack", unfollowed := true, recurses := true, apart := false, narrowed := true }
def ProbeBackUptoSaid : Prop := probeBackUptoRow.holds Try.pinned (OpenSpec.upto probeBackSpec)

/-- 'routescopelaw07.ProbeCarries', WHERE WHAT IT READS IS OF BULK AT MOST 1048576: true; the input reads as it did. -/
def probeCarriesUptoRow : OpenClaim := { program := "ytakbfcoablcboaa", sum := "883e3316fbb749ebc23a7aed5914f3b0ee6e56d8c8139817ae048d612f28acf7", func := "routescope/routescopelaw07.ProbeCarries", spec := "probeCarries", unfollowed := true, recurses := true, apart := false, narrowed := true }
def ProbeCarriesUptoSaid : Prop := probeCarriesUptoRow.holds Try.pinned (OpenSpec.upto probeCarriesSpec)

end Rows
end Go.Proofs.Ytakbfcoablcboaa
