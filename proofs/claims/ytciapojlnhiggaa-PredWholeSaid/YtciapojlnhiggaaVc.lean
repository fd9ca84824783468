/- NatOrder, NatRing, NatSteps, NatBits: the laws' contracts. -/
import Derived.Test.YtciapojlnhiggaaUe
import Derived.Test.YtciapojlnhiggaaVa
set_option linter.unusedVariables false
set_option linter.unusedSimpArgs false
namespace Go.RX.S
open Go Go.RX

theorem nMulF_V {x y : List Int} (hx : V x) (hy : V y) : nMulF (x, y) = some (bnd (val x * val y)) := gu_pos ⟨hx, hy⟩
theorem nMulF_ok {x y : List Int} (hx : V x) (hy : V y) (h : val x * val y < Lim) : nMulF (x, y) = some (can (val x * val y), 0) := by rw [nMulF_V hx hy, bnd_ok h]
theorem nCmpF_can {u v : Nat} (hu : u < Lim) (hv : v < Lim) : nCmpF (can u, can v) = some (sgn u v) := by
  rw [nCmpF_ok (V_can hu) (V_can hv), val_can, val_can]
theorem lim60 {a : Nat} (h : a < 18446744073709551616 ^ 60) : a < Lim := lt_Lim h (by rw [lw_eq]; omega)
theorem mul_lt_pow {a b n m : Nat} (ha : a < 18446744073709551616 ^ n) (hb : b < 18446744073709551616 ^ m) : a * b < 18446744073709551616 ^ (n + m) := by
  rw [Nat.pow_add]
  exact Nat.mul_lt_mul'' ha hb
theorem add_lt_pow {a b n m : Nat} (ha : a < 18446744073709551616 ^ n) (hb : b < 18446744073709551616 ^ n) : a + b < 18446744073709551616 ^ (n + 1) := by
  rw [Nat.pow_succ]
  omega
theorem lim_of {a n : Nat} (h : a < 18446744073709551616 ^ n) (hn : n ≤ 4096) : a < Lim := lt_Lim h (by rw [lw_eq]; exact hn)
theorem sgn_add {a b c : Nat} : sgn (a + c) (b + c) = sgn a b := by
  unfold sgn
  have h1 : (a + c < b + c) ↔ a < b := by omega
  have h2 : (a + c = b + c) ↔ a = b := by omega
  simp only [h1, h2]
theorem sgn_mul {a b c : Nat} (h : c ≠ 0) : sgn (a * c) (b * c) = sgn a b := by
  unfold sgn
  have h1 : (a * c < b * c) ↔ a < b := Nat.mul_lt_mul_right (by omega)
  have h2 : (a * c = b * c) ↔ a = b := Nat.mul_left_inj h
  simp only [h1, h2]
theorem sgn_self (a : Nat) : sgn a a = 0 := by simp [sgn]
theorem sgn_lt {a b : Nat} (h : a < b) : sgn a b = -1 := if_pos h
theorem sgn_gt {a b : Nat} (h : b < a) : sgn a b = 1 := by
  unfold sgn
  rw [if_neg (by omega), if_neg (by omega)]
theorem sgn_le {a b : Nat} : sgn a b ≤ 0 ↔ a ≤ b := by
  unfold sgn
  split
  · omega
  · split <;> omega
theorem len_can_zero {v : Nat} : ((((can v).length : Nat) : Int) = 0) ↔ v = 0 := by
  rw [← can_nil, ← List.length_eq_zero_iff]
  omega

theorem normalF_can {v : Nat} (h : v < Lim) : normalF (can v) = some true := by
  rw [normalF, gu_pos (U_can h).2]
  refine congrArg some (@decide_eq_true _ (Classical.propDecidable _) ?_)
  by_cases c : v = 0
  · exact .inl (by rw [c, can_zero])
  · have hl : (can v).length ≠ 0 := fun e => c (can_nil.1 (List.length_eq_zero_iff.1 e))
    obtain ⟨n, hn⟩ : ∃ n, (can v).length = n + 1 := ⟨(can v).length - 1, by omega⟩
    have := can_top n v hn
    exact .inr (by rw [hn, Nat.add_sub_cancel]; exact this)
theorem can_cons_len {v : Nat} (h : v < 18446744073709551616) : (can v).length ≤ 1 := can_len (by rw [Nat.pow_one]; exact h)
theorem nShlF_ok {x : List Int} (hx : V x) {n : Nat} (h : blen (val x) + n ≤ 262144) : nShlF (x, (n : Int)) = some (can (val x * 2 ^ n), 0) := by
  have hn : (n : Int) ≤ 9223372036854775807 := by omega
  rw [nShlF, gu_pos ⟨hx, hn⟩]
  dsimp only
  rw [if_neg (by omega), Int.toNat_natCast]
  by_cases c : val x = 0
  · rw [if_pos c, c, Nat.zero_mul, can_zero]
  · rw [if_neg c, if_pos h]
theorem nShrF_ok {x : List Int} (hx : V x) {n : Nat} (hn : n ≤ 9223372036854775807) (h : blen (val x) ≤ 262144) : nShrF (x, (n : Int)) = some (can (val x / 2 ^ n), decide (val x % 2 ^ n ≠ 0), 0) := by
  have hn' : (n : Int) ≤ 9223372036854775807 := by omega
  rw [nShrF, gu_pos ⟨hx, hn'⟩]
  dsimp only
  rw [if_neg (by omega), Int.toNat_natCast]
  by_cases c : ((blen (val x) : Nat) : Int) ≤ (n : Int)
  · have hlt := (blen_le_iff n (val x)).1 (by omega)
    rw [if_pos c, Nat.div_eq_of_lt hlt, Nat.mod_eq_of_lt hlt, can_zero]
    congr 3
    by_cases c2 : val x = 0
    · simp [c2]
    · have : 0 < val x := by omega
      simp [c2, this]
  · rw [if_neg c, if_neg (by omega)]
theorem intoF_ok {n : Int} (h : I64 n) : ∃ m : Nat, m < 400 ∧ intoF (n, 400) = some (m : Int) := by
  refine ⟨(n % 400).toNat, by omega, ?_⟩
  rw [intoF, gu_pos ⟨by omega, by omega, h.1, h.2⟩]
  dsimp only
  congr 1
  omega
theorem blen_mul_pow {v K : Nat} (k : Nat) (h : blen v ≤ K) : blen (v * 2 ^ k) ≤ K + k := by
  rw [blen_le_iff, Nat.pow_add]
  exact Nat.mul_lt_mul_of_pos_right ((blen_le_iff _ _).1 h) (Nat.pow_pos (by omega))
theorem blen_mono {v w K : Nat} (h : w ≤ v) (h' : blen v ≤ K) : blen w ≤ K := by
  rw [blen_le_iff] at *
  omega
theorem blen_pow_lt {i K : Nat} (h : i < K) : blen (2 ^ i) ≤ K := (blen_le_iff _ _).2 (Nat.pow_lt_pow_right (by omega) h)
theorem pow_pos2 (n : Nat) : 0 < 2 ^ n := Nat.pow_pos (by omega)
/-! ### bits -/
theorem nBitF_ok {x : List Int} (hx : V x) {i : Nat} (h : i ≤ 9223372036854775807) : nBitF (x, (i : Int)) = some ((val x / 2 ^ i % 2 : Nat) : Int) := by
  have h' : (i : Int) ≤ 9223372036854775807 := by omega
  rw [nBitF, gu_pos ⟨hx, h'⟩]
  dsimp only
  rw [if_neg (by omega), Int.toNat_natCast]
theorem mod_succ_pow (v i : Nat) : v % 2 ^ (i + 1) = v % 2 ^ i + 2 ^ i * (v / 2 ^ i % 2) := by
  rw [Nat.pow_succ, Nat.mod_mul]
theorem blen_top2 {r i : Nat} (h : r < 2 ^ i) : blen (r + 2 ^ i) = i + 1 := blen_unique (by rw [Nat.pow_succ]; omega) (.inr (by simp))
end Go.RX.S
