/- plumblaw03/outright: the laws' contracts. -/
import Derived.Test.YtciapojlnhiggaaWi
set_option linter.unusedVariables false
set_option linter.unusedSimpArgs false
namespace Go.RX.S
open Go Go.RX

theorem boundedF_ok {a : List Int} (ha : W64 a) (n : Nat) (hn : n ≤ 17592186044416) : boundedF (a, (n : Int)) = some (a.take n) := by
  rw [boundedF, gu_pos ⟨ha, by show (0 : Int) ≤ (n : Int); omega, by show (n : Int) ≤ _; omega⟩, Int.toNat_natCast]
theorem V_bounded {a : List Int} (ha : W64 a) {n : Nat} (hn : n ≤ 17592186043904) : L (a.take n) := ⟨ha.take n, by rw [List.length_take]; omega⟩
theorem val_bounded {a : List Int} (ha : W64 a) (n : Nat) : val (a.take n) < 18446744073709551616 ^ n := val_take_lt ha n
theorem timesF_ok {x y z : List Int} (hx : V x) (hy : V y) (hz : V z) (h1 : val x * val y + val z < Lim) : timesF (x, y, z) = some (can (val x * val y + val z), true) := by
  rw [timesF, gu_pos ⟨hx, hy, hz⟩]
  dsimp only
  rw [timesV, if_pos (by omega), okp, if_pos h1]
theorem zeroF_ok {x : List Int} (hx : V x) : zeroF x = some (decide (val x = 0)) := gu_pos hx
theorem liveF_ok : liveF PUnit.unit = some true := gu_pos trivial
theorem n0 : numF 0 = some 0 := numF_ok (by unfold I64; omega)
theorem n30 : numF 30 = some 30 := numF_ok (by unfold I64; omega)
theorem n31 : numF 31 = some 31 := numF_ok (by unfold I64; omega)
theorem n21 : numF 21 = some 21 := numF_ok (by unfold I64; omega)
theorem qSmallF_zero {x : List Int} (hx : V x) : qSmallF (x, 0) = some ([], 0, 30) := by
  rw [qSmallF, gu_pos ⟨hx, Wd_zero⟩]
  rfl
theorem nFromF_ok' {n : Nat} (h : n < 18446744073709551616) : nFromF (n : Int) = some (can n) := by rw [nFromF, gu_pos (Wd.of h), Int.toNat_natCast]

theorem lt_pow_more {a n m : Nat} (h : a < 18446744073709551616 ^ n) : a < 18446744073709551616 ^ (n + m) := Nat.lt_of_lt_of_le h (Nat.pow_le_pow_right (by omega) (Nat.le_add_right n m))
theorem muladd_lt_pow {a b c n : Nat} (ha : a < 18446744073709551616 ^ n) (hb : b < 18446744073709551616 ^ n) (hc : c < 18446744073709551616 ^ (n + n)) : a * b + c < 18446744073709551616 ^ (n + n + 1) := add_lt_pow (m := 0) (mul_lt_pow ha hb) hc
theorem one_lt_W {n : Nat} (h : 0 < n) : 1 < 18446744073709551616 ^ n := Nat.one_lt_pow (by omega) (by omega)
theorem mul1_lt_pow {a n : Nat} (ha : a < 18446744073709551616 ^ n) (h : 0 < n) : a * a + 1 < 18446744073709551616 ^ (n + n + 1) := muladd_lt_pow ha ha (one_lt_W (by omega))
theorem two_pow_le {n m : Nat} (h : n ≤ m) : 2 ^ n ≤ 2 ^ m := Nat.pow_le_pow_right (by omega) h
theorem succ_lt_pow {a n : Nat} (h : a < 18446744073709551616 ^ n) : a + 1 < 18446744073709551616 ^ (n + 1) := by
  rw [Nat.pow_succ]
  omega
theorem pow_lim {X : Nat} (h : X < 18446744073709551616 ^ 8) {n : Nat} (hn : n ≤ 24) : X ^ n < Lim := by
  have h1 : X ^ n ≤ (18446744073709551616 ^ 8) ^ n := Nat.pow_le_pow_left (Nat.le_of_lt h) n
  rw [← Nat.pow_mul] at h1
  have h2 : (18446744073709551616 : Nat) ^ (8 * n) < 18446744073709551616 ^ 193 := Nat.pow_lt_pow_right (by omega) (by omega)
  exact lim_of (Nat.lt_of_le_of_lt h1 h2) (by omega)
theorem powF_huge {X : Nat} (h : ¬ X < 2) : powF X 4611686018427387904 = ([], 21) := by
  obtain ⟨n, hn⟩ : ∃ n : Nat, (n : Int) = 4611686018427387904 := ⟨4611686018427387904, rfl⟩
  rw [← hn, powF, if_neg (by omega), if_neg (by omega), if_neg h, Int.toNat_natCast, if_neg]
  intro h1
  have h2 : 2 ^ n ≤ X ^ n := Nat.pow_le_pow_left (by omega) n
  have h3 : Lim ≤ 2 ^ n := by
    rw [Lim_pow]
    exact two_pow_le (by rw [lw_eq]; omega)
  omega
theorem withinF_12 {n : Int} (h : I64 n) : ∃ m : Nat, withinF (n, 12) = some (m : Int) ∧ m ≤ 12 := by
  have h1 := Int.emod_nonneg n (show (13 : Int) ≠ 0 by decide)
  have h2 := Int.emod_lt_of_pos n (show (0 : Int) < 13 by decide)
  refine ⟨(n % 13).toNat, ?_, by omega⟩
  rw [withinF, gu_pos ⟨h, by show (0 : Int) ≤ 12; decide, by show (12 : Int) < 4294967295; decide⟩]
  dsimp only
  rw [show (12 : Int) + 1 = 13 from rfl]
  congr 1
  omega
theorem qPowF_ok {x : List Int} (hx : V x) {n : Int} (h : I64 n) : qPowF (x, n) = some (powF (val x) n) := gu_pos ⟨hx, h⟩
theorem blen_le_one {v : Nat} : ((blen v : Nat) : Int) ≤ 1 ↔ v < 2 := by
  have := blen_le_iff 1 v
  rw [Nat.pow_one] at this
  omega
theorem RootF_ok {x : List Int} (hx : L x) : RootF x = some (can (isq (val x)), decide (isq (val x) * isq (val x) = val x)) := gu_pos hx
theorem L_can {v : Nat} (h : v < Lim) : L (can v) := ⟨can_ok v, by have := can_len (n := lw) h; rw [lw_eq] at this; omega⟩
theorem isq_sq (n : Nat) : isq (n * n) = n := isq_unique (Nat.le_refl _) (by grind)
theorem isq_sq1 {n : Nat} (h : 0 < n) : isq (n * n + 1) = n := isq_unique (by omega) (by grind)
theorem GcdF_V {x y : List Int} (hx : V x) (hy : V y) : GcdF (x, y) = some (can (Nat.gcd (val x) (val y))) := gu_pos ⟨hx, hy⟩
theorem dividesF_ok {x y : List Int} (hx : V x) (hy : V y) (h : val x ≠ 0) (hd : val x ∣ val y) : dividesF (x, y) = some true := by
  rw [dividesF, gu_pos ⟨hx, hy, h⟩]
  dsimp only
  rw [decide_eq_true (Nat.mod_eq_zero_of_dvd hd)]
theorem gcd_left {x y : Nat} (hd : Nat.gcd x y ≠ 0) : Nat.gcd (x / Nat.gcd x y) (y / Nat.gcd x y) = 1 := by
  have h := Nat.gcd_div (Nat.gcd_dvd_left x y) (Nat.gcd_dvd_right x y)
  rw [h, Nat.div_self (by omega)]
end Go.RX.S
