/- A closed fact of the program that every row of this seat asks: it may enter. -/
import Derived.Test.YtkiihodbgdnijaaGreatDoorRows
import Derived.JoinedOf
namespace Go.Proofs.YtkiihodbgdnijaaGreatDoor
theorem mayEnter : Tryz.checked.prog.mayEnter = true := by kernel_rfl
end Go.Proofs.YtkiihodbgdnijaaGreatDoor
