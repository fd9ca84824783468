/- What the functions of plumblaw03 and plumbref03 answer. -/
import Derived.Test.YtciapojlnhiggaaGreatZSe
set_option linter.unusedVariables false
set_option linter.unusedSimpArgs false
namespace Go.RX.S
open Go Go.RX
noncomputable section
def GcdF (t : List Int × List Int) : Option (List Int) := gu (V t.1 ∧ V t.2) (can (Nat.gcd (val t.1) (val t.2)))
def LowestF (t : List Int × List Int) : Option (List Int × List Int) := gu (V t.1 ∧ V t.2) (can (val t.1 / Nat.gcd (val t.1) (val t.2)), can (val t.2 / Nat.gcd (val t.1) (val t.2)))
def r3atF (t : List Int × Int) : Option Int := gu (0 ≤ t.2) (t.1.getD t.2.toNat 0)
def r3BitF (t : List Int × Int) : Option Int := gu (V t.1 ∧ 0 ≤ t.2 ∧ t.2 ≤ 4611686018427387904) ((val t.1 / 2 ^ t.2.toNat % 2 : Nat) : Int)
def r3CmpF (t : List Int × List Int) : Option Int := gu (U t.1 ∧ U t.2) (sgn (val t.1) (val t.2))
def r3AddF (t : List Int × List Int) : Option (List Int) := gu (V t.1 ∧ V t.2 ∧ t.1.length + 1 ≤ 17592186044416 ∧ t.2.length + 1 ≤ 17592186044416) (can (val t.1 + val t.2))
def r3SubF (t : List Int × List Int) : Option (List Int) := gu (V t.1 ∧ V t.2 ∧ val t.2 ≤ val t.1) (can (val t.1 - val t.2))
def r3ShlF (t : List Int × Int) : Option (List Int) := gu (V t.1 ∧ 0 ≤ t.2 ∧ t.2 ≤ 4611686018427387904 ∧ t.2.toNat / 64 + t.1.length + 1 ≤ 17592186044416) (can (val t.1 * 2 ^ t.2.toNat))
def r3WordF (t : Int) : Option (List Int) := gu (Wd t) (can t.toNat)
def r3DivModF (t : List Int × List Int) : Option (List Int × List Int × Int) := gu (L t.1 ∧ L t.2) (if val t.2 = 0 then ([], [], 30) else (can (val t.1 / val t.2), can (val t.1 % val t.2), 0))
def r3GcdF (t : List Int × List Int) : Option (List Int) := gu (L t.1 ∧ L t.2) (can (Nat.gcd (val t.1) (val t.2)))
def r3LowestF (t : List Int × List Int) : Option (List Int × List Int) := gu (L t.1 ∧ L t.2) (can (val t.1 / Nat.gcd (val t.1) (val t.2)), can (val t.2 / Nat.gcd (val t.1) (val t.2)))
end
end Go.RX.S
