/- A closed fact of the program that every row of this seat asks: it may enter. -/
import Derived.Test.YtandibmpaamfbaaRows
import Derived.JoinedOf
namespace Go.Proofs.Ytandibmpaamfbaa
theorem mayEnter : Try.checked.prog.mayEnter = true := by kernel_rfl
end Go.Proofs.Ytandibmpaamfbaa
