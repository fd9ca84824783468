/- NatOrder, NatRing, NatSteps, NatBits: the laws' contracts. -/
import Derived.Test.YtciapojlnhiggaaGreatZUe
import Derived.Test.YtciapojlnhiggaaGreatZVa
set_option linter.unusedVariables false
set_option linter.unusedSimpArgs false
namespace Go.RX.S
open Go Go.RX
theorem nMulF_V {x y : List Int} (hx : V x) (hy : V y) : nMulF (x, y) = some (bnd (val x * val y)) := gu_pos ⟨hx, hy⟩
theorem nMulF_ok {x y : List Int} (hx : V x) (hy : V y) (h : val x * val y < Lim) : nMulF (x, y) = some (can (val x * val y), 0) := by rw [nMulF_V hx hy, bnd_ok h]
theorem sgn_add {a b c : Nat} : sgn (a + c) (b + c) = sgn a b := by
  unfold sgn
  have h1 : (a + c < b + c) ↔ a < b := by omega
  have h2 : (a + c = b + c) ↔ a = b := by omega
  simp only [h1, h2]
theorem sgn_lt {a b : Nat} (h : a < b) : sgn a b = -1 := if_pos h
theorem sgn_gt {a b : Nat} (h : b < a) : sgn a b = 1 := by
  unfold sgn
  rw [if_neg (by omega), if_neg (by omega)]
theorem nShlF_ok {x : List Int} (hx : V x) {n : Nat} (h : blen (val x) + n ≤ 262144) : nShlF (x, (n : Int)) = some (can (val x * 2 ^ n), 0) := by
  have hn : (n : Int) ≤ 9223372036854775807 := by omega
  rw [nShlF, gu_pos ⟨hx, hn⟩]
  dsimp only
  rw [if_neg (by omega), Int.toNat_natCast]
  by_cases c : val x = 0
  · rw [if_pos c, c, Nat.zero_mul, can_zero]
  · rw [if_neg c, if_pos h]
end Go.RX.S
