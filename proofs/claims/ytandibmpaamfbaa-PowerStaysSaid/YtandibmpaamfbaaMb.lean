/- A closed fact of the program that every row of this seat asks: what it lifts. -/
import Derived.Test.YtandibmpaamfbaaRows
import Derived.JoinedOf
namespace Go.Proofs.Ytandibmpaamfbaa
theorem lifts : (Rows.natBackRow.lifted == Try.checked.prog.liftsFinal) = true := by kernel_rfl
end Go.Proofs.Ytandibmpaamfbaa
