/- A closed fact of the program that every row of this seat asks: its make. -/
import Derived.Test.YtkiihodbgdnijaaGreatDoorRows
import Derived.JoinedOf
namespace Go.Proofs.YtkiihodbgdnijaaGreatDoor
theorem makes : (Tryz.checked.prog.make == some Rows.lexNumeralsRow.make) = true := by kernel_rfl
end Go.Proofs.YtkiihodbgdnijaaGreatDoor
