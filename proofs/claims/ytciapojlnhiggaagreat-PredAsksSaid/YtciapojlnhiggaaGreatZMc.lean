/- A closed fact of the program that every row of this seat asks: its make. -/
import Derived.Test.YtciapojlnhiggaaGreatRows
import Derived.JoinedOf
namespace Go.Proofs.YtciapojlnhiggaaGreat
theorem makes : (Tryz.checked.prog.make == some Rows.predAsksRow.make) = true := by kernel_rfl
end Go.Proofs.YtciapojlnhiggaaGreat
