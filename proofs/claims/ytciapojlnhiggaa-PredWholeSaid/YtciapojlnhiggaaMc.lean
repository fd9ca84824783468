/- A closed fact of the program that every row of this seat asks: its make. -/
import Derived.Test.YtciapojlnhiggaaRows
import Derived.JoinedOf
namespace Go.Proofs.Ytciapojlnhiggaa
theorem makes : (Try.checked.prog.make == some Rows.predTurnsRow.make) = true := by kernel_rfl
end Go.Proofs.Ytciapojlnhiggaa
