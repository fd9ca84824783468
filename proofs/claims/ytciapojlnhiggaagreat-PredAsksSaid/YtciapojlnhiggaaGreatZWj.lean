/- plumblaw03/outright: the laws' contracts. -/
import Derived.Test.YtciapojlnhiggaaGreatZWi
set_option linter.unusedVariables false
set_option linter.unusedSimpArgs false
namespace Go.RX.S
open Go Go.RX
theorem n0 : numF 0 = some 0 := numF_ok (by unfold I64; omega)
theorem L_can {v : Nat} (h : v < Lim) : L (can v) := ⟨can_ok v, by have := can_len (n := lw) h; rw [lw_eq] at this; omega⟩
theorem GcdF_V {x y : List Int} (hx : V x) (hy : V y) : GcdF (x, y) = some (can (Nat.gcd (val x) (val y))) := gu_pos ⟨hx, hy⟩
end Go.RX.S
