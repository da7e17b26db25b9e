/-
  No cell of these rows narrows 'for every input' (looked for: loops, veiled, ifaces, maps, wideKeys, modest, calm, conditions, laid).
  DERIVED. THE GIVEN ROWS OF THIS SEAT. 9 by the template 'for every input the law returns true; each argument reads behind the call as it read before'; 0 by the template 'total and deterministic' (their statements: YtnpjmdldhdhdkaaTotals.lean).
  GIVEN WITH THE SEED: the statements are not yours to turn. If you find one false, say at which input.
  Laid BY PROGRAM, IN A SANDBOX (cutbox-rows.mjs): the forced cells as the released guide's own fill.sh prints them over the translation 8e0f671930dd7848… (all of the seat's roots in one cut). By AI agents, Wed Nov 11 2026. No macro, syntax, notation, axiom, sorry.
-/
import Derived.Test.YtnpjmdldhdhdkaaChecked
import GoSem.Claim
import GoSem.ClaimJoined
import GoSem.ClaimMapViews
import Derived.JoinedTies
import Derived.KernelRfl
namespace Go.Proofs.Ytnpjmdldhdhdkaa
/- THE CELL 'sum', in the pinned program and in every row, IS THE sha256 OF THE DUMP (.gsa) THAT YtnpjmdldhdhdkaaProg.lean LOADS. Nothing in Lean hashes anything: it is a label: what it is worth is what the hold of that sum in a sandbox is worth. -/
noncomputable def Try.pinned : Pinned := { name := "ytnpjmdldhdhdkaa", sum := "8e0f671930dd78480119c9fa1fae8631b20b7be3635f751eb8ceaaa46280129a", checked := Try.checked }
namespace Rows
def none {H : Type} : Left H := { results := [], args := [] }

/-- 'routescopelaw09.FibLongest': WHATEVER THE INPUT: true; the input reads as it did. -/
def fibLongestSpec : ChangeSpec := { name := "fibLongest", fn := fun _ => fun
  | [d1, d2] => { results := [.lit (.bool true)], args := [d1, d2] }
  | _ => none }
def fibLongestRow : OpenClaim := { program := "ytnpjmdldhdhdkaa", sum := "8e0f671930dd78480119c9fa1fae8631b20b7be3635f751eb8ceaaa46280129a", func := "routescope/routescopelaw09.FibLongest", spec := "fibLongest", unfollowed := true, recurses := true, apart := false }
def FibLongestSaid : Prop := fibLongestRow.holds Try.pinned (OpenSpec.ofChange fibLongestSpec)

/-- ITS FALSE NEIGHBOUR: 'it returns false'. Refute it at one input. -/
def fibLongestWrong : ChangeSpec := { name := "fibLongest", fn := fun _ => fun
  | [d1, d2] => { results := [.lit (.bool false)], args := [d1, d2] }
  | _ => none }
def FibLongestWrongFalsely : Prop := fibLongestRow.holds Try.pinned (OpenSpec.ofChange fibLongestWrong)

/-- 'routescopelaw06.TransportEncodes': WHATEVER THE INPUT: true; the input reads as it did. -/
def transportEncodesSpec : ChangeSpec := { name := "transportEncodes", fn := fun _ => fun
  | [d1, d2, d3, d4, d5] => { results := [.lit (.bool true)], args := [d1, d2, d3, d4, d5] }
  | _ => none }
def transportEncodesRow : OpenClaim := { program := "ytnpjmdldhdhdkaa", sum := "8e0f671930dd78480119c9fa1fae8631b20b7be3635f751eb8ceaaa46280129a", func := "routescope/routescopelaw06.TransportEncodes", spec := "transportEncodes", unfollowed := true, recurses := true, apart := false }
def TransportEncodesSaid : Prop := transportEncodesRow.holds Try.pinned (OpenSpec.ofChange transportEncodesSpec)

/-- ITS FALSE NEIGHBOUR: 'it returns false'. Refute it at one input. -/
def transportEncodesWrong : ChangeSpec := { name := "transportEncodes", fn := fun _ => fun
  | [d1, d2, d3, d4, d5] => { results := [.lit (.bool false)], args := [d1, d2, d3, d4, d5] }
  | _ => none }
def TransportEncodesWrongFalsely : Prop := transportEncodesRow.holds Try.pinned (OpenSpec.ofChange transportEncodesWrong)

/-- 'routescopelaw06.TransportSwaps': WHATEVER THE INPUT: true; the input reads as it did. -/
def transportSwapsSpec : ChangeSpec := { name := "transportSwaps", fn := fun _ => fun
  | [d1, d2] => { results := [.lit (.bool true)], args := [d1, d2] }
  | _ => none }
def transportSwapsRow : OpenClaim := { program := "ytnpjmdldhdhdkaa", sum := "8e0f671930dd78480119c9fa1fae8631b20b7be3635f751eb8ceaaa46280129a", func := "routescope/routescopelaw06.TransportSwaps", spec := "transportSwaps", unfollowed := true, recurses := true, apart := false }
def TransportSwapsSaid : Prop := transportSwapsRow.holds Try.pinned (OpenSpec.ofChange transportSwapsSpec)

/-- ITS FALSE NEIGHBOUR: 'it returns false'. Refute it at one input. -/
def transportSwapsWrong : ChangeSpec := { name := "transportSwaps", fn := fun _ => fun
  | [d1, d2] => { results := [.lit (.bool false)], args := [d1, d2] }
  | _ => none }
def TransportSwapsWrongFalsely : Prop := transportSwapsRow.holds Try.pinned (OpenSpec.ofChange transportSwapsWrong)

/-- 'routescopelaw09.FibRemoves': WHATEVER THE INPUT: true; the input reads as it did. -/
def fibRemovesSpec : ChangeSpec := { name := "fibRemoves", fn := fun _ => fun
  | [d] => { results := [.lit (.bool true)], args := [d] }
  | _ => none }
def fibRemovesRow : OpenClaim := { program := "ytnpjmdldhdhdkaa", sum := "8e0f671930dd78480119c9fa1fae8631b20b7be3635f751eb8ceaaa46280129a", func := "routescope/routescopelaw09.FibRemoves", spec := "fibRemoves", unfollowed := true, recurses := true, apart := false }
def FibRemovesSaid : Prop := fibRemovesRow.holds Try.pinned (OpenSpec.ofChange fibRemovesSpec)

/-- ITS FALSE NEIGHBOUR: 'it returns false'. Refute it at one input. -/
def fibRemovesWrong : ChangeSpec := { name := "fibRemoves", fn := fun _ => fun
  | [d] => { results := [.lit (.bool false)], args := [d] }
  | _ => none }
def FibRemovesWrongFalsely : Prop := fibRemovesRow.holds Try.pinned (OpenSpec.ofChange fibRemovesWrong)

/-- 'routescopelaw06.TransportDecodes': WHATEVER THE INPUT: true; the input reads as it did. -/
def transportDecodesSpec : ChangeSpec := { name := "transportDecodes", fn := fun _ => fun
  | [d1, d2, d3] => { results := [.lit (.bool true)], args := [d1, d2, d3] }
  | _ => none }
def transportDecodesRow : OpenClaim := { program := "ytnpjmdldhdhdkaa", sum := "8e0f671930dd78480119c9fa1fae8631b20b7be3635f751eb8ceaaa46280129a", func := "routescope/routescopelaw06.TransportDecodes", spec := "transportDecodes", unfollowed := true, recurses := true, apart := false }
def TransportDecodesSaid : Prop := transportDecodesRow.holds Try.pinned (OpenSpec.ofChange transportDecodesSpec)

/-- ITS FALSE NEIGHBOUR: 'it returns false'. Refute it at one input. -/
def transportDecodesWrong : ChangeSpec := { name := "transportDecodes", fn := fun _ => fun
  | [d1, d2, d3] => { results := [.lit (.bool false)], args := [d1, d2, d3] }
  | _ => none }
def TransportDecodesWrongFalsely : Prop := transportDecodesRow.holds Try.pinned (OpenSpec.ofChange transportDecodesWrong)

/-- 'routescopelaw06.TransportDamage': WHATEVER THE INPUT: true; the input reads as it did. -/
def transportDamageSpec : ChangeSpec := { name := "transportDamage", fn := fun _ => fun
  | [d1, d2, d3, d4] => { results := [.lit (.bool true)], args := [d1, d2, d3, d4] }
  | _ => none }
def transportDamageRow : OpenClaim := { program := "ytnpjmdldhdhdkaa", sum := "8e0f671930dd78480119c9fa1fae8631b20b7be3635f751eb8ceaaa46280129a", func := "routescope/routescopelaw06.TransportDamage", spec := "transportDamage", unfollowed := true, recurses := true, apart := false }
def TransportDamageSaid : Prop := transportDamageRow.holds Try.pinned (OpenSpec.ofChange transportDamageSpec)

/-- ITS FALSE NEIGHBOUR: 'it returns false'. Refute it at one input. -/
def transportDamageWrong : ChangeSpec := { name := "transportDamage", fn := fun _ => fun
  | [d1, d2, d3, d4] => { results := [.lit (.bool false)], args := [d1, d2, d3, d4] }
  | _ => none }
def TransportDamageWrongFalsely : Prop := transportDamageRow.holds Try.pinned (OpenSpec.ofChange transportDamageWrong)

/-- 'routescopelaw09.FibPuts': WHATEVER THE INPUT: true; the input reads as it did. -/
def fibPutsSpec : ChangeSpec := { name := "fibPuts", fn := fun _ => fun
  | [d] => { results := [.lit (.bool true)], args := [d] }
  | _ => none }
def fibPutsRow : OpenClaim := { program := "ytnpjmdldhdhdkaa", sum := "8e0f671930dd78480119c9fa1fae8631b20b7be3635f751eb8ceaaa46280129a", func := "routescope/routescopelaw09.FibPuts", spec := "fibPuts", unfollowed := true, recurses := true, apart := false }
def FibPutsSaid : Prop := fibPutsRow.holds Try.pinned (OpenSpec.ofChange fibPutsSpec)

/-- ITS FALSE NEIGHBOUR: 'it returns false'. Refute it at one input. -/
def fibPutsWrong : ChangeSpec := { name := "fibPuts", fn := fun _ => fun
  | [d] => { results := [.lit (.bool false)], args := [d] }
  | _ => none }
def FibPutsWrongFalsely : Prop := fibPutsRow.holds Try.pinned (OpenSpec.ofChange fibPutsWrong)

/-- 'routescopelaw09.FibExact': WHATEVER THE INPUT: true; the input reads as it did. -/
def fibExactSpec : ChangeSpec := { name := "fibExact", fn := fun _ => fun
  | [d1, d2, d3, d4, d5] => { results := [.lit (.bool true)], args := [d1, d2, d3, d4, d5] }
  | _ => none }
def fibExactRow : OpenClaim := { program := "ytnpjmdldhdhdkaa", sum := "8e0f671930dd78480119c9fa1fae8631b20b7be3635f751eb8ceaaa46280129a", func := "routescope/routescopelaw09.FibExact", spec := "fibExact", unfollowed := true, recurses := true, apart := false }
def FibExactSaid : Prop := fibExactRow.holds Try.pinned (OpenSpec.ofChange fibExactSpec)

/-- ITS FALSE NEIGHBOUR: 'it returns false'. Refute it at one input. -/
def fibExactWrong : ChangeSpec := { name := "fibExact", fn := fun _ => fun
  | [d1, d2, d3, d4, d5] => { results := [.lit (.bool false)], args := [d1, d2, d3, d4, d5] }
  | _ => none }
def FibExactWrongFalsely : Prop := fibExactRow.holds Try.pinned (OpenSpec.ofChange fibExactWrong)

/-- 'routescopelaw06.TransportBack': WHATEVER THE INPUT: true; the input reads as it did. -/
def transportBackSpec : ChangeSpec := { name := "transportBack", fn := fun _ => fun
  | [d1, d2] => { results := [.lit (.bool true)], args := [d1, d2] }
  | _ => none }
def transportBackRow : OpenClaim := { program := "ytnpjmdldhdhdkaa", sum := "8e0f671930dd78480119c9fa1fae8631b20b7be3635f751eb8ceaaa46280129a", func := "routescope/routescopelaw06.TransportBack", spec := "transportBack", unfollowed := true, recurses := true, apart := false }
def TransportBackSaid : Prop := transportBackRow.holds Try.pinned (OpenSpec.ofChange transportBackSpec)

/-- ITS FALSE NEIGHBOUR: 'it returns false'. Refute it at one input. -/
def transportBackWrong : ChangeSpec := { name := "transportBack", fn := fun _ => fun
  | [d1, d2] => { results := [.lit (.bool false)], args := [d1, d2] }
  | _ => none }
def TransportBackWrongFalsely : Prop := transportBackRow.holds Try.pinned (OpenSpec.ofChange transportBackWrong)

/- THE SECOND FORM. 'bulk': how many values and letters a reading holds, each counted each time it is reached (what is shared counts as often as it is met; a slice's spare places count too). A statement '..UptoSaid' is the law's where the arguments, and the package variables that the reading takes, are together of bulk at most 1048576: NARROWER than '..Said'. Prove '..Said' where nothing that the law and all that it calls make is longer than what came in: it says more and counts as full. Else prove '..UptoSaid'. A law counts once. -/
mutual
def uptoBulk {H : Type} : DataW H → Nat
  | .lit (.string bytes) => bytes.length + 1
  | .lit _ => 1
  | .nil => 1
  | .ptr d => uptoBulk d + 1
  | .slice elems spare => uptoBulkAll elems + uptoBulkAll spare + 1
  | .agg parts => uptoBulkAll parts + 1
  | .iface _ d => uptoBulk d + 1
  | .map entries => uptoBulkEntries entries + 1
  | .held _ => 1
def uptoBulkAll {H : Type} : List (DataW H) → Nat
  | [] => 0
  | d :: r => uptoBulk d + uptoBulkAll r
def uptoBulkEntries {H : Type} : List (Lit × DataW H) → Nat
  | [] => 0
  | x :: r => uptoBulkEntry x + uptoBulkEntries r
def uptoBulkEntry {H : Type} : Lit × DataW H → Nat
  | (.string bytes, d) => bytes.length + uptoBulk d + 1
  | (_, d) => uptoBulk d + 1
 end
def uptoSmall : (H : Type) → List (DataW H) → Bool := fun _ ds => decide (uptoBulkAll ds ≤ 1048576)
def OpenSpec.upto (s : _root_.Go.ChangeSpec) : _root_.Go.OpenSpec := { _root_.Go.OpenSpec.ofChange s with cond := some uptoSmall }

/-- 'routescopelaw09.FibLongest', WHERE WHAT IT READS IS OF BULK AT MOST 1048576: true; the input reads as it did. -/
def fibLongestUptoRow : OpenClaim := { program := "ytnpjmdldhdhdkaa", sum := "8e0f671930dd78480119c9fa1fae8631b20b7be3635f751eb8ceaaa46280129a", func := "routescope/routescopelaw09.FibLongest", spec := "fibLongest", unfollowed := true, recurses := true, apart := false, narrowed := true }
def FibLongestUptoSaid : Prop := fibLongestUptoRow.holds Try.pinned (OpenSpec.upto fibLongestSpec)

/-- 'routescopelaw06.TransportEncodes', WHERE WHAT IT READS IS OF BULK AT MOST 1048576: true; the input reads as it did. -/
def transportEncodesUptoRow : OpenClaim := { program := "ytnpjmdldhdhdkaa", sum := "8e0f671930dd78480119c9fa1fae8631b20b7be3635f751eb8ceaaa46280129a", func := "routescope/routescopelaw06.TransportEncodes", spec := "transportEncodes", unfollowed := true, recurses := true, apart := false, narrowed := true }
def TransportEncodesUptoSaid : Prop := transportEncodesUptoRow.holds Try.pinned (OpenSpec.upto transportEncodesSpec)

/-- 'routescopelaw06.TransportSwaps', WHERE WHAT IT READS IS OF BULK AT MOST 1048576: true; the input reads as it did. -/
def transportSwapsUptoRow : OpenClaim := { program := "ytnpjmdldhdhdkaa", sum := "8e0f671930dd78480119c9fa1fae8631b20b7be3635f751eb8ceaaa46280129a", func := "routescope/routescopelaw06.TransportSwaps", spec := "transportSwaps", unfollowed := true, recurses := true, apart := false, narrowed := true }
def TransportSwapsUptoSaid : Prop := transportSwapsUptoRow.holds Try.pinned (OpenSpec.upto transportSwapsSpec)

/-- 'routescopelaw09.FibRemoves', WHERE WHAT IT READS IS OF BULK AT MOST 1048576: true; the input reads as it did. -/
def fibRemovesUptoRow : OpenClaim := { program := "ytnpjmdldhdhdkaa", sum := "8e0f671930dd78480119c9fa1fae8631b20b7be3635f751eb8ceaaa46280129a", func := "routescope/routescopelaw09.FibRemoves", spec := "fibRemoves", unfollowed := true, recurses := true, apart := false, narrowed := true }
def FibRemovesUptoSaid : Prop := fibRemovesUptoRow.holds Try.pinned (OpenSpec.upto fibRemovesSpec)

/-- 'routescopelaw06.TransportDecodes', WHERE WHAT IT READS IS OF BULK AT MOST 1048576: true; the input reads as it did. -/
def transportDecodesUptoRow : OpenClaim := { program := "ytnpjmdldhdhdkaa", sum := "8e0f671930dd78480119c9fa1fae8631b20b7be3635f751eb8ceaaa46280129a", func := "routescope/routescopelaw06.TransportDecodes", spec := "transportDecodes", unfollowed := true, recurses := true, apart := false, narrowed := true }
def TransportDecodesUptoSaid : Prop := transportDecodesUptoRow.holds Try.pinned (OpenSpec.upto transportDecodesSpec)

/-- 'routescopelaw06.TransportDamage', WHERE WHAT IT READS IS OF BULK AT MOST 1048576: true; the input reads as it did. -/
def transportDamageUptoRow : OpenClaim := { program := "ytnpjmdldhdhdkaa", sum := "8e0f671930dd78480119c9fa1fae8631b20b7be3635f751eb8ceaaa46280129a", func := "routescope/routescopelaw06.TransportDamage", spec := "transportDamage", unfollowed := true, recurses := true, apart := false, narrowed := true }
def TransportDamageUptoSaid : Prop := transportDamageUptoRow.holds Try.pinned (OpenSpec.upto transportDamageSpec)

/-- 'routescopelaw09.FibPuts', WHERE WHAT IT READS IS OF BULK AT MOST 1048576: true; the input reads as it did. -/
def fibPutsUptoRow : OpenClaim := { program := "ytnpjmdldhdhdkaa", sum := "8e0f671930dd78480119c9fa1fae8631b20b7be3635f751eb8ceaaa46280129a", func := "routescope/routescopelaw09.FibPuts", spec := "fibPuts", unfollowed := true, recurses := true, apart := false, narrowed := true }
def FibPutsUptoSaid : Prop := fibPutsUptoRow.holds Try.pinned (OpenSpec.upto fibPutsSpec)

/-- 'routescopelaw09.FibExact', WHERE WHAT IT READS IS OF BULK AT MOST 1048576: true; the input reads as it did. -/
def fibExactUptoRow : OpenClaim := { program := "ytnpjmdldhdhdkaa", sum := "8e0f671930dd78480119c9fa1fae8631b20b7be3635f751eb8ceaaa46280129a", func := "routescope/routescopelaw09.FibExact", spec := "fibExact", unfollowed := true, recurses := true, apart := false, narrowed := true }
def FibExactUptoSaid : Prop := fibExactUptoRow.holds Try.pinned (OpenSpec.upto fibExactSpec)

/-- 'routescopelaw06.TransportBack', WHERE WHAT IT READS IS OF BULK AT MOST 1048576: true; the input reads as it did. -/
def transportBackUptoRow : OpenClaim := { program := "ytnpjmdldhdhdkaa", sum := "8e0f671930dd78480119c9fa1fae8631b20b7be3635f751eb8ceaaa46280129a", func := "routescope/routescopelaw06.TransportBack", spec := "transportBack", unfollowed := true, recurses := true, apart := false, narrowed := true }
def TransportBackUptoSaid : Prop := transportBackUptoRow.holds Try.pinned (OpenSpec.upto transportBackSpec)

end Rows
end Go.Proofs.Ytnpjmdldhdhdkaa
