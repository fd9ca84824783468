/- A closed fact of the program that every row of this seat asks: what it lifts. -/
import Derived.Test.YtciapojlnhiggaaGreatRows
import Derived.JoinedOf
namespace Go.Proofs.YtciapojlnhiggaaGreat
theorem lifts : (Rows.predAsksRow.lifted == Tryz.checked.prog.liftsFinal) = true := by kernel_rfl
end Go.Proofs.YtciapojlnhiggaaGreat
