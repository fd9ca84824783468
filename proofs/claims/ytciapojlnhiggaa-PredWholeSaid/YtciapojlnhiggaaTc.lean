/- What functions compute, printed. -/
import Derived.Test.YtciapojlnhiggaaSe
import Derived.Test.YtciapojlnhiggaaTb
set_option linter.unusedVariables false
set_option linter.unusedSimpArgs false
namespace Go.RX.S
open Go Go.RX
noncomputable section
end
end Go.RX.S