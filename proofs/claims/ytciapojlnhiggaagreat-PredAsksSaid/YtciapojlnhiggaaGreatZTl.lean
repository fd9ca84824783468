/- What functions compute, printed. -/
import Derived.Test.YtciapojlnhiggaaGreatZSp
set_option linter.unusedVariables false
set_option linter.unusedSimpArgs false
namespace Go.RX.S
open Go Go.RX Go.Proofs
end Go.RX.S
