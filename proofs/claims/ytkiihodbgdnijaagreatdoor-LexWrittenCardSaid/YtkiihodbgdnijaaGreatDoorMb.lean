/- A closed fact of the program that every row of this seat asks: what it lifts. -/
import Derived.Test.YtkiihodbgdnijaaGreatDoorRows
import Derived.JoinedOf
namespace Go.Proofs.YtkiihodbgdnijaaGreatDoor
theorem lifts : (Rows.lexNumeralsRow.lifted == Tryz.checked.prog.liftsFinal) = true := by kernel_rfl
end Go.Proofs.YtkiihodbgdnijaaGreatDoor
