/- TopJournalsMerge: facts of the program's text, each by the kernel alone. -/
import Derived.Test.YtgcnlmckfpcgpaaGreatDoorRows
import Derived.JoinedOf
import Derived.WalkKit
import Derived.SevenTiedAt
namespace Go.Proofs.YtgcnlmckfpcgpaaGreatDoor.topJournalsMergeDone

theorem laidOut : laidOutB Tryz.prog = true := by kernel_rfl
theorem factPlace : (Rows.topJournalsMergeRow.inPlace == Tryz.prog.inPlace 3) = true := by kernel_rfl
theorem factUnfollowed : (Rows.topJournalsMergeRow.unfollowed == Tryz.prog.unfollowed 3) = true := by kernel_rfl
theorem factRecurses : (Rows.topJournalsMergeRow.recurses == Tryz.prog.recurses 3) = true := by kernel_rfl
theorem factNamed : (Rows.topJournalsMergeRow.named == Tryz.prog.varsNamed 3) = true := by kernel_rfl
theorem factMain : Tryz.prog.mainIs = some (true, "34bc71e6fb8f3e3dbff6e285c2ce142e391a7cb8249aca94f59e302d3436dc52".toList) := by kernel_rfl
theorem factLooks : false = Tryz.prog.looks [] := by kernel_rfl
theorem factGoes : false = Rows.topJournalsMergeRow.goesBy Tryz.prog := by kernel_rfl
end Go.Proofs.YtgcnlmckfpcgpaaGreatDoor.topJournalsMergeDone
