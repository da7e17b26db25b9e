/-
  DERIVED. GIVEN WITH THE SEED: THE CARDS: each row of YtgllbbabppaaaaaDoorRows.lean that lists a variable, with what it lists TIED to the program's text (the seventh form; the later family's looks); each row that meets fmt, with fmt's text TOLD by the authors' own Lean function (tested against real Go, not proved from fmt's source: count such statements apart). THE CARD IS WHAT COUNTS. Prove the row's statement (the work); the ties are given (YtgllbbabppaaaaaDoorTie.lean); close each card by the builder's one call (the guide's Derived/Test/ToyasCard.lean, 'card_holds'). Laid BY PROGRAM, IN A SANDBOX (cutbox-door.mjs). By AI agents, Wed Nov 11 2026. No macro, syntax, notation, axiom, sorry.
-/
import Derived.Test.YtgllbbabppaaaaaDoorRows
import GoSem.ClaimSeven
namespace Go.Proofs.YtgllbbabppaaaaaDoor
namespace Rows

/-- THE TIED CARD OF 'routescopelaw14.TopologyChecks'. -/
def topologyChecksCard : Claim7 := { stood := { row := topologyChecksRow, standIns := [], harness := (true, "db7eae6ec8894ecb0e4a1c91587c81ab034db3fed410bbf8e9ddb709e87ccc03"), looks := false }, kinds := [], alts := [], laidByText := true, laidKinds := [.data], laidTests := true, laidLooks := .later }
def TopologyChecksCardSaid : Prop := Claim7.holds Tryd.pinned (.plain (OpenSpec.ofChange topologyChecksSpec)) topologyChecksCard

/-- THE SECOND FORM's CARD OF 'routescopelaw14.TopologyChecks'. -/
def topologyChecksUptoCard : Claim7 := { stood := { row := topologyChecksUptoRow, standIns := [], harness := (true, "db7eae6ec8894ecb0e4a1c91587c81ab034db3fed410bbf8e9ddb709e87ccc03"), looks := false }, kinds := [], alts := [], laidByText := true, laidKinds := [.data], laidTests := true, laidLooks := .later }
def TopologyChecksUptoCardSaid : Prop := Claim7.holds Tryd.pinned (.plain (OpenSpec.upto topologyChecksSpec)) topologyChecksUptoCard
end Rows
end Go.Proofs.YtgllbbabppaaaaaDoor
