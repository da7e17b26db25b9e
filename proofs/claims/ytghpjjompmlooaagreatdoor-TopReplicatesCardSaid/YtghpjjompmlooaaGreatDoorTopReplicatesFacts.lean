/- TopReplicates: facts of the program's text, each by the kernel alone. -/
import Derived.Test.YtghpjjompmlooaaGreatDoorRows
import Derived.JoinedOf
import Derived.WalkKit
import Derived.SevenTiedAt
namespace Go.Proofs.YtghpjjompmlooaaGreatDoor.topReplicatesDone

theorem laidOut : laidOutB Tryz.prog = true := by kernel_rfl
theorem factPlace : (Rows.topReplicatesRow.inPlace == Tryz.prog.inPlace 3) = true := by kernel_rfl
theorem factUnfollowed : (Rows.topReplicatesRow.unfollowed == Tryz.prog.unfollowed 3) = true := by kernel_rfl
theorem factRecurses : (Rows.topReplicatesRow.recurses == Tryz.prog.recurses 3) = true := by kernel_rfl
theorem factNamed : (Rows.topReplicatesRow.named == Tryz.prog.varsNamed 3) = true := by kernel_rfl
theorem factMain : Tryz.prog.mainIs = some (true, "9ce8b4a6d32822b6d1337ffe90ca49e6dadd34fa27a4fedd387fd8f81c589993".toList) := by kernel_rfl
theorem factLooks : false = Tryz.prog.looks [] := by kernel_rfl
theorem factGoes : false = Rows.topReplicatesRow.goesBy Tryz.prog := by kernel_rfl
end Go.Proofs.YtghpjjompmlooaaGreatDoor.topReplicatesDone
