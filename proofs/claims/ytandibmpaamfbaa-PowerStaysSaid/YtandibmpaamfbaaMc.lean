/- A closed fact of the program that every row of this seat asks: its make. -/
import Derived.Test.YtandibmpaamfbaaRows
import Derived.JoinedOf
namespace Go.Proofs.Ytandibmpaamfbaa
theorem makes : (Try.checked.prog.make == some Rows.natBackRow.make) = true := by kernel_rfl
end Go.Proofs.Ytandibmpaamfbaa
