/- A closed fact of the program that every row of this seat asks: it may enter. -/
import Derived.Test.YtciapojlnhiggaaRows
import Derived.JoinedOf
namespace Go.Proofs.Ytciapojlnhiggaa
theorem mayEnter : Try.checked.prog.mayEnter = true := by kernel_rfl
end Go.Proofs.Ytciapojlnhiggaa
