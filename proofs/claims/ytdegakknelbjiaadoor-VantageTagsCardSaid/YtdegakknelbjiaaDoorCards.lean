/-
  DERIVED. GIVEN WITH THE SEED: THE CARDS: each row of YtdegakknelbjiaaDoorRows.lean that lists a variable, with what it lists TIED to the program's text (the seventh form; the later family's looks); each row that meets fmt, with fmt's text TOLD by the authors' own Lean function (tested against real Go, not proved from fmt's source: count such statements apart). THE CARD IS WHAT COUNTS. Prove the row's statement (the work); the ties are given (YtdegakknelbjiaaDoorTie.lean); close each card by the builder's one call (the guide's Derived/Test/ToyasCard.lean, 'card_holds'). Laid BY PROGRAM, IN A SANDBOX (cutbox-door.mjs). By AI agents, Wed Nov 11 2026. No macro, syntax, notation, axiom, sorry.
-/
import Derived.Test.YtdegakknelbjiaaDoorRows
import GoSem.ClaimSeven
namespace Go.Proofs.YtdegakknelbjiaaDoor
namespace Rows

/-- THE TIED CARD OF 'routescopelaw14.TopologyChecks'. -/
def topologyChecksCard : Claim7 := { stood := { row := topologyChecksRow, standIns := [], harness := (true, "7e1b22dd10e74a1e64482b3a69d25a63febae8c29c663c2ba7f52a7193e40423"), looks := false }, kinds := [], alts := [], laidByText := true, laidKinds := [.data], laidTests := true, laidLooks := .later }
def TopologyChecksCardSaid : Prop := Claim7.holds Tryd.pinned (.plain (OpenSpec.ofChange topologyChecksSpec)) topologyChecksCard

/-- THE TIED CARD OF 'routescopelaw14.TopologyLinks'. -/
def topologyLinksCard : Claim7 := { stood := { row := topologyLinksRow, standIns := [], harness := (true, "7e1b22dd10e74a1e64482b3a69d25a63febae8c29c663c2ba7f52a7193e40423"), looks := false }, kinds := [], alts := [], laidByText := true, laidKinds := [.data], laidTests := true, laidLooks := .later }
def TopologyLinksCardSaid : Prop := Claim7.holds Tryd.pinned (.plain (OpenSpec.ofChange topologyLinksSpec)) topologyLinksCard

/-- THE TIED CARD OF 'routescopelaw14.TopologySteady'. -/
def topologySteadyCard : Claim7 := { stood := { row := topologySteadyRow, standIns := [], harness := (true, "7e1b22dd10e74a1e64482b3a69d25a63febae8c29c663c2ba7f52a7193e40423"), looks := false }, kinds := [], alts := [], laidByText := true, laidKinds := [.data], laidTests := true, laidLooks := .later }
def TopologySteadyCardSaid : Prop := Claim7.holds Tryd.pinned (.plain (OpenSpec.ofChange topologySteadySpec)) topologySteadyCard

/-- THE TIED CARD OF 'routescopelaw14.TopologyFinds'. -/
def topologyFindsCard : Claim7 := { stood := { row := topologyFindsRow, standIns := [], harness := (true, "7e1b22dd10e74a1e64482b3a69d25a63febae8c29c663c2ba7f52a7193e40423"), looks := false }, kinds := [], alts := [], laidByText := true, laidKinds := [.data], laidTests := true, laidLooks := .later }
def TopologyFindsCardSaid : Prop := Claim7.holds Tryd.pinned (.plain (OpenSpec.ofChange topologyFindsSpec)) topologyFindsCard

/-- THE TIED CARD OF 'routescopelaw18.VantageTags'. -/
def vantageTagsCard : Claim7 := { stood := { row := vantageTagsRow, standIns := [], harness := (true, "7e1b22dd10e74a1e64482b3a69d25a63febae8c29c663c2ba7f52a7193e40423"), looks := false }, kinds := [], alts := [], laidByText := true, laidKinds := [.data], laidTests := true, laidLooks := .later }
def VantageTagsCardSaid : Prop := Claim7.holds Tryd.pinned (.plain (OpenSpec.ofChange vantageTagsSpec)) vantageTagsCard

/-- THE SECOND FORM's CARD OF 'routescopelaw14.TopologyChecks'. -/
def topologyChecksUptoCard : Claim7 := { stood := { row := topologyChecksUptoRow, standIns := [], harness := (true, "7e1b22dd10e74a1e64482b3a69d25a63febae8c29c663c2ba7f52a7193e40423"), looks := false }, kinds := [], alts := [], laidByText := true, laidKinds := [.data], laidTests := true, laidLooks := .later }
def TopologyChecksUptoCardSaid : Prop := Claim7.holds Tryd.pinned (.plain (OpenSpec.upto topologyChecksSpec)) topologyChecksUptoCard

/-- THE SECOND FORM's CARD OF 'routescopelaw14.TopologyLinks'. -/
def topologyLinksUptoCard : Claim7 := { stood := { row := topologyLinksUptoRow, standIns := [], harness := (true, "7e1b22dd10e74a1e64482b3a69d25a63febae8c29c663c2ba7f52a7193e40423"), looks := false }, kinds := [], alts := [], laidByText := true, laidKinds := [.data], laidTests := true, laidLooks := .later }
def TopologyLinksUptoCardSaid : Prop := Claim7.holds Tryd.pinned (.plain (OpenSpec.upto topologyLinksSpec)) topologyLinksUptoCard

/-- THE SECOND FORM's CARD OF 'routescopelaw14.TopologySteady'. -/
def topologySteadyUptoCard : Claim7 := { stood := { row := topologySteadyUptoRow, standIns := [], harness := (true, "7e1b22dd10e74a1e64482b3a69d25a63febae8c29c663c2ba7f52a7193e40423"), looks := false }, kinds := [], alts := [], laidByText := true, laidKinds := [.data], laidTests := true, laidLooks := .later }
def TopologySteadyUptoCardSaid : Prop := Claim7.holds Tryd.pinned (.plain (OpenSpec.upto topologySteadySpec)) topologySteadyUptoCard

/-- THE SECOND FORM's CARD OF 'routescopelaw14.TopologyFinds'. -/
def topologyFindsUptoCard : Claim7 := { stood := { row := topologyFindsUptoRow, standIns := [], harness := (true, "7e1b22dd10e74a1e64482b3a69d25a63febae8c29c663c2ba7f52a7193e40423"), looks := false }, kinds := [], alts := [], laidByText := true, laidKinds := [.data], laidTests := true, laidLooks := .later }
def TopologyFindsUptoCardSaid : Prop := Claim7.holds Tryd.pinned (.plain (OpenSpec.upto topologyFindsSpec)) topologyFindsUptoCard

/-- THE SECOND FORM's CARD OF 'routescopelaw18.VantageTags'. -/
def vantageTagsUptoCard : Claim7 := { stood := { row := vantageTagsUptoRow, standIns := [], harness := (true, "7e1b22dd10e74a1e64482b3a69d25a63febae8c29c663c2ba7f52a7193e40423"), looks := false }, kinds := [], alts := [], laidByText := true, laidKinds := [.data], laidTests := true, laidLooks := .later }
def VantageTagsUptoCardSaid : Prop := Claim7.holds Tryd.pinned (.plain (OpenSpec.upto vantageTagsSpec)) vantageTagsUptoCard
end Rows
end Go.Proofs.YtdegakknelbjiaaDoor
