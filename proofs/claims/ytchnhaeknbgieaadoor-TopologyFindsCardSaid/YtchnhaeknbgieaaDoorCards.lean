/-
  DERIVED. GIVEN WITH THE SEED: THE CARDS: each row of YtchnhaeknbgieaaDoorRows.lean that lists a variable, with what it lists TIED to the program's text (the seventh form; the later family's looks); each row that meets fmt, with fmt's text TOLD by the authors' own Lean function (tested against real Go, not proved from fmt's source: count such statements apart). THE CARD IS WHAT COUNTS. Prove the row's statement (the work); the ties are given (YtchnhaeknbgieaaDoorTie.lean); close each card by the builder's one call (the guide's Derived/Test/ToyasCard.lean, 'card_holds'). Laid BY PROGRAM, IN A SANDBOX (cutbox-door.mjs). By AI agents, Wed Nov 11 2026. No macro, syntax, notation, axiom, sorry.
-/
import Derived.Test.YtchnhaeknbgieaaDoorRows
import GoSem.ClaimSeven
namespace Go.Proofs.YtchnhaeknbgieaaDoor
namespace Rows

/-- THE TIED CARD OF 'routescopelaw14.TopologyChecks'. -/
def topologyChecksCard : Claim7 := { stood := { row := topologyChecksRow, standIns := [], harness := (true, "ff61f4bb542203d2058dcb1a6f1b391926538003c2a13392d41bbe4edd1ea42b"), looks := false }, kinds := [], alts := [], laidByText := true, laidKinds := [.data], laidTests := true, laidLooks := .later }
def TopologyChecksCardSaid : Prop := Claim7.holds Tryd.pinned (.plain (OpenSpec.ofChange topologyChecksSpec)) topologyChecksCard

/-- THE TIED CARD OF 'routescopelaw14.TopologyLinks'. -/
def topologyLinksCard : Claim7 := { stood := { row := topologyLinksRow, standIns := [], harness := (true, "ff61f4bb542203d2058dcb1a6f1b391926538003c2a13392d41bbe4edd1ea42b"), looks := false }, kinds := [], alts := [], laidByText := true, laidKinds := [.data], laidTests := true, laidLooks := .later }
def TopologyLinksCardSaid : Prop := Claim7.holds Tryd.pinned (.plain (OpenSpec.ofChange topologyLinksSpec)) topologyLinksCard

/-- THE TIED CARD OF 'routescopelaw14.TopologySteady'. -/
def topologySteadyCard : Claim7 := { stood := { row := topologySteadyRow, standIns := [], harness := (true, "ff61f4bb542203d2058dcb1a6f1b391926538003c2a13392d41bbe4edd1ea42b"), looks := false }, kinds := [], alts := [], laidByText := true, laidKinds := [.data], laidTests := true, laidLooks := .later }
def TopologySteadyCardSaid : Prop := Claim7.holds Tryd.pinned (.plain (OpenSpec.ofChange topologySteadySpec)) topologySteadyCard

/-- THE TIED CARD OF 'routescopelaw14.TopologyFinds'. -/
def topologyFindsCard : Claim7 := { stood := { row := topologyFindsRow, standIns := [], harness := (true, "ff61f4bb542203d2058dcb1a6f1b391926538003c2a13392d41bbe4edd1ea42b"), looks := false }, kinds := [], alts := [], laidByText := true, laidKinds := [.data], laidTests := true, laidLooks := .later }
def TopologyFindsCardSaid : Prop := Claim7.holds Tryd.pinned (.plain (OpenSpec.ofChange topologyFindsSpec)) topologyFindsCard

/-- THE SECOND FORM's CARD OF 'routescopelaw14.TopologyChecks'. -/
def topologyChecksUptoCard : Claim7 := { stood := { row := topologyChecksUptoRow, standIns := [], harness := (true, "ff61f4bb542203d2058dcb1a6f1b391926538003c2a13392d41bbe4edd1ea42b"), looks := false }, kinds := [], alts := [], laidByText := true, laidKinds := [.data], laidTests := true, laidLooks := .later }
def TopologyChecksUptoCardSaid : Prop := Claim7.holds Tryd.pinned (.plain (OpenSpec.upto topologyChecksSpec)) topologyChecksUptoCard

/-- THE SECOND FORM's CARD OF 'routescopelaw14.TopologyLinks'. -/
def topologyLinksUptoCard : Claim7 := { stood := { row := topologyLinksUptoRow, standIns := [], harness := (true, "ff61f4bb542203d2058dcb1a6f1b391926538003c2a13392d41bbe4edd1ea42b"), looks := false }, kinds := [], alts := [], laidByText := true, laidKinds := [.data], laidTests := true, laidLooks := .later }
def TopologyLinksUptoCardSaid : Prop := Claim7.holds Tryd.pinned (.plain (OpenSpec.upto topologyLinksSpec)) topologyLinksUptoCard

/-- THE SECOND FORM's CARD OF 'routescopelaw14.TopologySteady'. -/
def topologySteadyUptoCard : Claim7 := { stood := { row := topologySteadyUptoRow, standIns := [], harness := (true, "ff61f4bb542203d2058dcb1a6f1b391926538003c2a13392d41bbe4edd1ea42b"), looks := false }, kinds := [], alts := [], laidByText := true, laidKinds := [.data], laidTests := true, laidLooks := .later }
def TopologySteadyUptoCardSaid : Prop := Claim7.holds Tryd.pinned (.plain (OpenSpec.upto topologySteadySpec)) topologySteadyUptoCard

/-- THE SECOND FORM's CARD OF 'routescopelaw14.TopologyFinds'. -/
def topologyFindsUptoCard : Claim7 := { stood := { row := topologyFindsUptoRow, standIns := [], harness := (true, "ff61f4bb542203d2058dcb1a6f1b391926538003c2a13392d41bbe4edd1ea42b"), looks := false }, kinds := [], alts := [], laidByText := true, laidKinds := [.data], laidTests := true, laidLooks := .later }
def TopologyFindsUptoCardSaid : Prop := Claim7.holds Tryd.pinned (.plain (OpenSpec.upto topologyFindsSpec)) topologyFindsUptoCard
end Rows
end Go.Proofs.YtchnhaeknbgieaaDoor
