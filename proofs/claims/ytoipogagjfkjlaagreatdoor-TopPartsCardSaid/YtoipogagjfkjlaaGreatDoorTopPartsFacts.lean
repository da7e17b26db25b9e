/- TopParts: facts of the program's text, each by the kernel alone. -/
import Derived.Test.YtoipogagjfkjlaaGreatDoorRows
import Derived.JoinedOf
import Derived.WalkKit
import Derived.SevenTiedAt
namespace Go.Proofs.YtoipogagjfkjlaaGreatDoor.topPartsDone

theorem laidOut : laidOutB Tryz.prog = true := by kernel_rfl
theorem factPlace : (Rows.topPartsRow.inPlace == Tryz.prog.inPlace 3) = true := by kernel_rfl
theorem factUnfollowed : (Rows.topPartsRow.unfollowed == Tryz.prog.unfollowed 3) = true := by kernel_rfl
theorem factRecurses : (Rows.topPartsRow.recurses == Tryz.prog.recurses 3) = true := by kernel_rfl
theorem factNamed : (Rows.topPartsRow.named == Tryz.prog.varsNamed 3) = true := by kernel_rfl
theorem factMain : Tryz.prog.mainIs = some (true, "1e805561c8d93d8f20382accf6d39e6ece776b42cb89de96024b8fa9d5973f27".toList) := by kernel_rfl
theorem factLooks : false = Tryz.prog.looks [] := by kernel_rfl
theorem factGoes : false = Rows.topPartsRow.goesBy Tryz.prog := by kernel_rfl
end Go.Proofs.YtoipogagjfkjlaaGreatDoor.topPartsDone
