/-
  No cell of these rows narrows 'for every input' (looked for: loops, veiled, ifaces, maps, wideKeys, modest, calm, conditions, laid).
  DERIVED. THE GIVEN ROWS OF THIS SEAT. 5 by the template 'for every input the law returns true; each argument reads behind the call as it read before'; 0 by the template 'total and deterministic' (their statements: YtffciochlkcjbaaTotals.lean).
  GIVEN WITH THE SEED: the statements are not yours to turn. If you find one false, say at which input.
  Laid BY PROGRAM, IN A SANDBOX (cutbox-rows.mjs): the forced cells as the released guide's own fill.sh prints them over the translation 766c2072543f2e26… (all of the seat's roots in one cut). By AI agents, Wed Nov 11 2026. No macro, syntax, notation, axiom, sorry.
-/
import Derived.Test.YtffciochlkcjbaaChecked
import GoSem.Claim
import GoSem.ClaimJoined
import GoSem.ClaimMapViews
import Derived.JoinedTies
import Derived.KernelRfl
namespace Go.Proofs.Ytffciochlkcjbaa
/- THE CELL 'sum', in the pinned program and in every row, IS THE sha256 OF THE DUMP (.gsa) THAT YtffciochlkcjbaaProg.lean LOADS. Nothing in Lean hashes anything: it is a label: what it is worth is what the hold of that sum in a sandbox is worth. -/
noncomputable def Try.pinned : Pinned := { name := "ytffciochlkcjbaa", sum := "766c2072543f2e260075bbb16f0774be5eda3c439d57d6b0c5ffee055205b457", checked := Try.checked }
namespace Rows
def none {H : Type} : Left H := { results := [], args := [] }

/-- 'routescopelaw21.ExchangeParts': WHATEVER THE INPUT: true; the input reads as it did. -/
def exchangePartsSpec : ChangeSpec := { name := "exchangeParts", fn := fun _ => fun
  | [d1, d2, d3] => { results := [.lit (.bool true)], args := [d1, d2, d3] }
  | _ => none }
def exchangePartsRow : OpenClaim := { program := "ytffciochlkcjbaa", sum := "766c2072543f2e260075bbb16f0774be5eda3c439d57d6b0c5ffee055205b457", func := "routescope/routescopelaw21.ExchangeParts", spec := "exchangeParts", inPlace := ["slices.overlaps[routescope/api.Item]", "slices.overlaps[routescope/api.Transit]"], unfollowed := true, recurses := true, apart := false }
def ExchangePartsSaid : Prop := exchangePartsRow.holds Try.pinned (OpenSpec.ofChange exchangePartsSpec)

/-- ITS FALSE NEIGHBOUR: 'it returns false'. Refute it at one input. -/
def exchangePartsWrong : ChangeSpec := { name := "exchangeParts", fn := fun _ => fun
  | [d1, d2, d3] => { results := [.lit (.bool false)], args := [d1, d2, d3] }
  | _ => none }
def ExchangePartsWrongFalsely : Prop := exchangePartsRow.holds Try.pinned (OpenSpec.ofChange exchangePartsWrong)

/-- 'routescopelaw21.ExchangeRecovers': WHATEVER THE INPUT: true; the input reads as it did. -/
def exchangeRecoversSpec : ChangeSpec := { name := "exchangeRecovers", fn := fun _ => fun
  | [d1, d2] => { results := [.lit (.bool true)], args := [d1, d2] }
  | _ => none }
def exchangeRecoversRow : OpenClaim := { program := "ytffciochlkcjbaa", sum := "766c2072543f2e260075bbb16f0774be5eda3c439d57d6b0c5ffee055205b457", func := "routescope/routescopelaw21.ExchangeRecovers", spec := "exchangeRecovers", inPlace := ["slices.overlaps[routescope/api.Item]", "slices.overlaps[routescope/api.Transit]"], unfollowed := true, recurses := true, apart := false }
def ExchangeRecoversSaid : Prop := exchangeRecoversRow.holds Try.pinned (OpenSpec.ofChange exchangeRecoversSpec)

/-- ITS FALSE NEIGHBOUR: 'it returns false'. Refute it at one input. -/
def exchangeRecoversWrong : ChangeSpec := { name := "exchangeRecovers", fn := fun _ => fun
  | [d1, d2] => { results := [.lit (.bool false)], args := [d1, d2] }
  | _ => none }
def ExchangeRecoversWrongFalsely : Prop := exchangeRecoversRow.holds Try.pinned (OpenSpec.ofChange exchangeRecoversWrong)

/-- 'routescopelaw21.ExchangePrefix': WHATEVER THE INPUT: true; the input reads as it did. -/
def exchangePrefixSpec : ChangeSpec := { name := "exchangePrefix", fn := fun _ => fun
  | [d] => { results := [.lit (.bool true)], args := [d] }
  | _ => none }
def exchangePrefixRow : OpenClaim := { program := "ytffciochlkcjbaa", sum := "766c2072543f2e260075bbb16f0774be5eda3c439d57d6b0c5ffee055205b457", func := "routescope/routescopelaw21.ExchangePrefix", spec := "exchangePrefix", inPlace := ["slices.overlaps[routescope/api.Item]", "slices.overlaps[routescope/api.Transit]"], unfollowed := true, recurses := true, apart := false }
def ExchangePrefixSaid : Prop := exchangePrefixRow.holds Try.pinned (OpenSpec.ofChange exchangePrefixSpec)

/-- ITS FALSE NEIGHBOUR: 'it returns false'. Refute it at one input. -/
def exchangePrefixWrong : ChangeSpec := { name := "exchangePrefix", fn := fun _ => fun
  | [d] => { results := [.lit (.bool false)], args := [d] }
  | _ => none }
def ExchangePrefixWrongFalsely : Prop := exchangePrefixRow.holds Try.pinned (OpenSpec.ofChange exchangePrefixWrong)

/-- 'routescopelaw21.ExchangeChecks': WHATEVER THE INPUT: true; the input reads as it did. -/
def exchangeChecksSpec : ChangeSpec := { name := "exchangeChecks", fn := fun _ => fun
  | [d1, d2] => { results := [.lit (.bool true)], args := [d1, d2] }
  | _ => none }
def exchangeChecksRow : OpenClaim := { program := "ytffciochlkcjbaa", sum := "766c2072543f2e260075bbb16f0774be5eda3c439d57d6b0c5ffee055205b457", func := "routescope/routescopelaw21.ExchangeChecks", spec := "exchangeChecks", inPlace := ["slices.overlaps[routescope/api.Item]", "slices.overlaps[routescope/api.Transit]"], unfollowed := true, recurses := true, apart := false }
def ExchangeChecksSaid : Prop := exchangeChecksRow.holds Try.pinned (OpenSpec.ofChange exchangeChecksSpec)

/-- ITS FALSE NEIGHBOUR: 'it returns false'. Refute it at one input. -/
def exchangeChecksWrong : ChangeSpec := { name := "exchangeChecks", fn := fun _ => fun
  | [d1, d2] => { results := [.lit (.bool false)], args := [d1, d2] }
  | _ => none }
def ExchangeChecksWrongFalsely : Prop := exchangeChecksRow.holds Try.pinned (OpenSpec.ofChange exchangeChecksWrong)

/-- 'routescopelaw21.ExchangeExact': WHATEVER THE INPUT: true; the input reads as it did. -/
def exchangeExactSpec : ChangeSpec := { name := "exchangeExact", fn := fun _ => fun
  | [d1, d2, d3, d4] => { results := [.lit (.bool true)], args := [d1, d2, d3, d4] }
  | _ => none }
def exchangeExactRow : OpenClaim := { program := "ytffciochlkcjbaa", sum := "766c2072543f2e260075bbb16f0774be5eda3c439d57d6b0c5ffee055205b457", func := "routescope/routescopelaw21.ExchangeExact", spec := "exchangeExact", inPlace := ["slices.overlaps[routescope/api.Item]", "slices.overlaps[routescope/api.Transit]"], unfollowed := true, recurses := true, apart := false }
def ExchangeExactSaid : Prop := exchangeExactRow.holds Try.pinned (OpenSpec.ofChange exchangeExactSpec)

/-- ITS FALSE NEIGHBOUR: 'it returns false'. Refute it at one input. -/
def exchangeExactWrong : ChangeSpec := { name := "exchangeExact", fn := fun _ => fun
  | [d1, d2, d3, d4] => { results := [.lit (.bool false)], args := [d1, d2, d3, d4] }
  | _ => none }
def ExchangeExactWrongFalsely : Prop := exchangeExactRow.holds Try.pinned (OpenSpec.ofChange exchangeExactWrong)

/- THE SECOND FORM. 'bulk': how many values and letters a reading holds, each counted each time it is reached (what is shared counts as often as it is met; a slice's spare places count too). A statement '..UptoSaid' is the law's where the arguments, and the package variables that the reading takes, are together of bulk at most 1048576: NARROWER than '..Said'. Prove '..Said' where nothing that the law and all that it calls make is longer than what came in: it says more and counts as full. Else prove '..UptoSaid'. A law counts once. -/
mutual
def uptoBulk {H : Type} : DataW H → Nat
  | .lit (.string bytes) => bytes.length + 1
  | .lit _ => 1
  | .nil => 1
  | .ptr d => uptoBulk d + 1
  | .slice elems spare => uptoBulkAll elems + uptoBulkAll spare + 1
  | .agg parts => uptoBulkAll parts + 1
  | .iface _ d => uptoBulk d + 1
  | .map entries => uptoBulkEntries entries + 1
  | .held _ => 1
def uptoBulkAll {H : Type} : List (DataW H) → Nat
  | [] => 0
  | d :: r => uptoBulk d + uptoBulkAll r
def uptoBulkEntries {H : Type} : List (Lit × DataW H) → Nat
  | [] => 0
  | x :: r => uptoBulkEntry x + uptoBulkEntries r
def uptoBulkEntry {H : Type} : Lit × DataW H → Nat
  | (.string bytes, d) => bytes.length + uptoBulk d + 1
  | (_, d) => uptoBulk d + 1
 end
def uptoSmall : (H : Type) → List (DataW H) → Bool := fun _ ds => decide (uptoBulkAll ds ≤ 1048576)
def OpenSpec.upto (s : _root_.Go.ChangeSpec) : _root_.Go.OpenSpec := { _root_.Go.OpenSpec.ofChange s with cond := some uptoSmall }

/-- 'routescopelaw21.ExchangeParts', WHERE WHAT IT READS IS OF BULK AT MOST 1048576: true; the input reads as it did. -/
def exchangePartsUptoRow : OpenClaim := { program := "ytffciochlkcjbaa", sum := "766c2072543f2e260075bbb16f0774be5eda3c439d57d6b0c5ffee055205b457", func := "routescope/routescopelaw21.ExchangeParts", spec := "exchangeParts", inPlace := ["slices.overlaps[routescope/api.Item]", "slices.overlaps[routescope/api.Transit]"], unfollowed := true, recurses := true, apart := false, narrowed := true }
def ExchangePartsUptoSaid : Prop := exchangePartsUptoRow.holds Try.pinned (OpenSpec.upto exchangePartsSpec)

/-- 'routescopelaw21.ExchangeRecovers', WHERE WHAT IT READS IS OF BULK AT MOST 1048576: true; the input reads as it did. -/
def exchangeRecoversUptoRow : OpenClaim := { program := "ytffciochlkcjbaa", sum := "766c2072543f2e260075bbb16f0774be5eda3c439d57d6b0c5ffee055205b457", func := "routescope/routescopelaw21.ExchangeRecovers", spec := "exchangeRecovers", inPlace := ["slices.overlaps[routescope/api.Item]", "slices.overlaps[routescope/api.Transit]"], unfollowed := true, recurses := true, apart := false, narrowed := true }
def ExchangeRecoversUptoSaid : Prop := exchangeRecoversUptoRow.holds Try.pinned (OpenSpec.upto exchangeRecoversSpec)

/-- 'routescopelaw21.ExchangePrefix', WHERE WHAT IT READS IS OF BULK AT MOST 1048576: true; the input reads as it did. -/
def exchangePrefixUptoRow : OpenClaim := { program := "ytffciochlkcjbaa", sum := "766c2072543f2e260075bbb16f0774be5eda3c439d57d6b0c5ffee055205b457", func := "routescope/routescopelaw21.ExchangePrefix", spec := "exchangePrefix", inPlace := ["slices.overlaps[routescope/api.Item]", "slices.overlaps[routescope/api.Transit]"], unfollowed := true, recurses := true, apart := false, narrowed := true }
def ExchangePrefixUptoSaid : Prop := exchangePrefixUptoRow.holds Try.pinned (OpenSpec.upto exchangePrefixSpec)

/-- 'routescopelaw21.ExchangeChecks', WHERE WHAT IT READS IS OF BULK AT MOST 1048576: true; the input reads as it did. -/
def exchangeChecksUptoRow : OpenClaim := { program := "ytffciochlkcjbaa", sum := "766c2072543f2e260075bbb16f0774be5eda3c439d57d6b0c5ffee055205b457", func := "routescope/routescopelaw21.ExchangeChecks", spec := "exchangeChecks", inPlace := ["slices.overlaps[routescope/api.Item]", "slices.overlaps[routescope/api.Transit]"], unfollowed := true, recurses := true, apart := false, narrowed := true }
def ExchangeChecksUptoSaid : Prop := exchangeChecksUptoRow.holds Try.pinned (OpenSpec.upto exchangeChecksSpec)

/-- 'routescopelaw21.ExchangeExact', WHERE WHAT IT READS IS OF BULK AT MOST 1048576: true; the input reads as it did. -/
def exchangeExactUptoRow : OpenClaim := { program := "ytffciochlkcjbaa", sum := "766c2072543f2e260075bbb16f0774be5eda3c439d57d6b0c5ffee055205b457", func := "routescope/routescopelaw21.ExchangeExact", spec := "exchangeExact", inPlace := ["slices.overlaps[routescope/api.Item]", "slices.overlaps[routescope/api.Transit]"], unfollowed := true, recurses := true, apart := false, narrowed := true }
def ExchangeExactUptoSaid : Prop := exchangeExactUptoRow.holds Try.pinned (OpenSpec.upto exchangeExactSpec)

end Rows
end Go.Proofs.Ytffciochlkcjbaa
