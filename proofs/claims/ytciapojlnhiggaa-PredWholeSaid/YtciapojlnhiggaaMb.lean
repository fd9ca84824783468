/- A closed fact of the program that every row of this seat asks: what it lifts. -/
import Derived.Test.YtciapojlnhiggaaRows
import Derived.JoinedOf
namespace Go.Proofs.Ytciapojlnhiggaa
theorem lifts : (Rows.predTurnsRow.lifted == Try.checked.prog.liftsFinal) = true := by kernel_rfl
end Go.Proofs.Ytciapojlnhiggaa
