/- Closed facts of the program that every tied card of this seat asks. -/
import Derived.Test.YtkiihodbgdnijaaGreatDoorRows
import Derived.SevenTiedAt
namespace Go.Proofs.YtkiihodbgdnijaaGreatDoor
theorem mainIs : Tryz.pinned.checked.prog.mainIs = some (true, "7394cf8a0a0649f75bcb066a7d0e6bf9e10d61b70e5b050d6951ca709b1cec20".toList) := by kernel_rfl
theorem looks0 : true = Tryz.pinned.checked.prog.looks [] := by kernel_rfl
end Go.Proofs.YtkiihodbgdnijaaGreatDoor
