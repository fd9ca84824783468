/- What the functions of plumblaw03 and plumbref03 answer. -/
import Derived.Test.YtciapojlnhiggaaSe
set_option linter.unusedVariables false
set_option linter.unusedSimpArgs false
namespace Go.RX.S
open Go Go.RX

/-- The root. -/
def isq : Nat → Nat
  | 0 => 0
  | n + 1 => if (isq n + 1) * (isq n + 1) ≤ n + 1 then isq n + 1 else isq n
theorem isq_spec : ∀ n, isq n * isq n ≤ n ∧ n < (isq n + 1) * (isq n + 1)
  | 0 => by simp [isq]
  | n + 1 => by
    have ih := isq_spec n
    rw [isq]
    split
    · rename_i h
      refine ⟨h, ?_⟩
      have : (isq n + 1 + 1) * (isq n + 1 + 1) = (isq n + 1) * (isq n + 1) + 2 * (isq n + 1) + 1 := by grind
      omega
    · omega
theorem isq_unique {n r : Nat} (h1 : r * r ≤ n) (h2 : n < (r + 1) * (r + 1)) : isq n = r := by
  have hs := isq_spec n
  have key : ∀ a b : Nat, a < b → b * b ≤ n → n < (a + 1) * (a + 1) → False := by
    intro a b hab hb ha
    have : (a + 1) * (a + 1) ≤ b * b := Nat.mul_le_mul hab hab
    omega
  rcases Nat.lt_trichotomy (isq n) r with h | h | h
  · exact (key _ _ h h1 hs.2).elim
  · exact h
  · exact (key _ _ h hs.1 h2).elim
noncomputable section
def GcdF (t : List Int × List Int) : Option (List Int) := gu (V t.1 ∧ V t.2) (can (Nat.gcd (val t.1) (val t.2)))
def RootF (x : List Int) : Option (List Int × Bool) := gu (L x) (can (isq (val x)), decide (isq (val x) * isq (val x) = val x))
def LowestF (t : List Int × List Int) : Option (List Int × List Int) := gu (V t.1 ∧ V t.2) (can (val t.1 / Nat.gcd (val t.1) (val t.2)), can (val t.2 / Nat.gcd (val t.1) (val t.2)))
def boundedF (t : List Int × Int) : Option (List Int) := gu (W64 t.1 ∧ 0 ≤ t.2 ∧ t.2 ≤ 17592186044416) (t.1.take t.2.toNat)
def zeroF (x : List Int) : Option Bool := gu (V x) (decide (val x = 0))
def timesV (x y z : Nat) : List Int × Bool := if x * y < Lim then okp (x * y + z) else ((bnd z).1, false)
def timesF (t : List Int × List Int × List Int) : Option (List Int × Bool) := gu (V t.1 ∧ V t.2.1 ∧ V t.2.2) (timesV (val t.1) (val t.2.1) (val t.2.2))
def liveF (t : Unit) : Option Bool := gu True true
def dividesF (t : List Int × List Int) : Option Bool := gu (V t.1 ∧ V t.2 ∧ val t.1 ≠ 0) (decide (val t.2 % val t.1 = 0))
def withinF (t : Int × Int) : Option Int := gu (I64 t.1 ∧ 0 ≤ t.2 ∧ t.2 < 4294967295) (t.1 % (t.2 + 1))
def QuotDividesF (t : List Int × List Int) : Option Bool := gu (W64 t.1 ∧ W64 t.2) true
def QuotBackF (t : List Int × List Int × List Int) : Option Bool := gu (W64 t.1 ∧ W64 t.2.1 ∧ W64 t.2.2) true
def QuotPowersF (t : List Int × Int × Int) : Option Bool := gu (W64 t.1 ∧ I64 t.2.1 ∧ I64 t.2.2) true
def QuotSquaresF (x : List Int) : Option Bool := gu (W64 x) true
def QuotCommonF (t : List Int × List Int × List Int) : Option Bool := gu (W64 t.1 ∧ W64 t.2.1 ∧ W64 t.2.2) true
def r3atF (t : List Int × Int) : Option Int := gu (0 ≤ t.2) (t.1.getD t.2.toNat 0)
def r3BitF (t : List Int × Int) : Option Int := gu (V t.1 ∧ 0 ≤ t.2 ∧ t.2 ≤ 4611686018427387904) ((val t.1 / 2 ^ t.2.toNat % 2 : Nat) : Int)
def r3CmpF (t : List Int × List Int) : Option Int := gu (U t.1 ∧ U t.2) (sgn (val t.1) (val t.2))
def r3AddF (t : List Int × List Int) : Option (List Int) := gu (V t.1 ∧ V t.2 ∧ t.1.length + 1 ≤ 17592186044416 ∧ t.2.length + 1 ≤ 17592186044416) (can (val t.1 + val t.2))
def r3SubF (t : List Int × List Int) : Option (List Int) := gu (V t.1 ∧ V t.2 ∧ val t.2 ≤ val t.1) (can (val t.1 - val t.2))
def r3ShlF (t : List Int × Int) : Option (List Int) := gu (V t.1 ∧ 0 ≤ t.2 ∧ t.2 ≤ 4611686018427387904 ∧ t.2.toNat / 64 + t.1.length + 1 ≤ 17592186044416) (can (val t.1 * 2 ^ t.2.toNat))
def r3WordF (t : Int) : Option (List Int) := gu (Wd t) (can t.toNat)
def r3DivModF (t : List Int × List Int) : Option (List Int × List Int × Int) := gu (L t.1 ∧ L t.2) (if val t.2 = 0 then ([], [], 30) else (can (val t.1 / val t.2), can (val t.1 % val t.2), 0))
def r3SmallF (t : List Int × Int) : Option (List Int × Int × Int) := gu (L t.1 ∧ Wd t.2) (if t.2 = 0 then ([], 0, 30) else (can (val t.1 / t.2.toNat), ((val t.1 % t.2.toNat : Nat) : Int), 0))
def r3GcdF (t : List Int × List Int) : Option (List Int) := gu (L t.1 ∧ L t.2) (can (Nat.gcd (val t.1) (val t.2)))
def r3LowestF (t : List Int × List Int) : Option (List Int × List Int) := gu (L t.1 ∧ L t.2) (can (val t.1 / Nat.gcd (val t.1) (val t.2)), can (val t.2 / Nat.gcd (val t.1) (val t.2)))
def QuotDivsF (t : List Int × List Int × Int) : Option Bool := gu (L t.1 ∧ L t.2.1 ∧ Wd t.2.2) true
def QuotGcdsF (t : List Int × List Int) : Option Bool := gu (L t.1 ∧ L t.2) true
end
end Go.RX.S
