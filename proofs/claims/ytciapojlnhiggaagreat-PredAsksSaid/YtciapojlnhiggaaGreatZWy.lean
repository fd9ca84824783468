/- plumblaw22: PredWhole. -/
import Derived.Test.YtciapojlnhiggaaGreatZWx
import Derived.Test.YtciapojlnhiggaaGreatZTl
set_option linter.unusedVariables false
set_option linter.unusedSimpArgs false
namespace Go.RX.S
open Go Go.RX Go.Proofs
theorem sgnQ_sc {s q : Rat} (hs : 0 < s) : sgnQ (s * q) = sgnQ q := by
  rcases tri q with h | h | h
  · rw [sgnQ_n h, sgnQ_n]
    have := Rat.mul_pos hs (show 0 < -q by grind)
    grind
  · rw [h, Rat.mul_zero]
  · rw [sgnQ_p h, sgnQ_p (Rat.mul_pos hs h)]
theorem sgnQ_int (n : Int) : sgnQ (n : Rat) = sgnI n := by unfold sgnQ; rw [Rat.num_intCast]
def lx (x y : Int) : Int := if sgnI x = 0 then sgnI y else sgnI x
theorem sgnI_cases (z : Int) : (z < 0 ∧ sgnI z = -1) ∨ (z = 0 ∧ sgnI z = 0) ∨ (0 < z ∧ sgnI z = 1) := by
  unfold sgnI
  split
  · omega
  · split <;> omega
theorem lx_cases (x y : Int) : ((x < 0 ∨ x = 0 ∧ y < 0) ∧ lx x y = -1) ∨ ((x = 0 ∧ y = 0) ∧ lx x y = 0) ∨ ((0 < x ∨ x = 0 ∧ 0 < y) ∧ lx x y = 1) := by
  unfold lx
  rcases sgnI_cases x with h | h | h <;> rcases sgnI_cases y with h2 | h2 | h2 <;> split <;> omega
theorem mul_le0 {a b : Int} (hb : 0 < b) : a * b ≤ 0 ↔ a ≤ 0 := by
  constructor
  · intro h
    rcases Int.lt_or_le 0 a with h' | h'
    · have := Int.mul_pos h' hb
      omega
    · exact h'
  · intro h
    have := Int.mul_nonneg (show 0 ≤ -a by omega) (show 0 ≤ b by omega)
    rw [Int.neg_mul] at this
    omega
theorem mul_ge0 {a b : Int} (hb : 0 < b) : 0 ≤ a * b ↔ 0 ≤ a := by
  have := mul_le0 (a := -a) hb
  rw [Int.neg_mul] at this
  omega
theorem ss_pos {x y : Int} (h : x ≠ 0) : 0 < x * x + y * y := by
  have h1 : 0 < x * x := by
    rcases Int.lt_or_le x 0 with h' | h'
    · exact Int.mul_pos_of_neg_of_neg h' h'
    · exact Int.mul_pos (by omega) (by omega)
  have h2 : 0 ≤ y * y := by
    rcases Int.lt_or_le y 0 with h' | h'
    · exact Int.le_of_lt (Int.mul_pos_of_neg_of_neg h' h')
    · exact Int.mul_nonneg h' h'
  omega
theorem between_int {ux uy wx wy : Int} (h : ux * wy = wx * uy) : (lx (-ux) (-uy) ≤ 0 ∧ lx wx wy ≤ 0 ∨ lx (-ux) (-uy) ≥ 0 ∧ lx wx wy ≥ 0) ↔ ux * wx + uy * wy ≤ 0 := by
  have hk : (ux * wx + uy * wy) * ux = wx * (ux * ux + uy * uy) := by
    have : uy * (ux * wy) = uy * (wx * uy) := by rw [h]
    grind
  have c1 := lx_cases (-ux) (-uy)
  have c2 := lx_cases wx wy
  rcases Int.lt_trichotomy ux 0 with u | u | u
  · have hS := ss_pos (y := uy) (show ux ≠ 0 by omega)
    have e1 : 0 ≤ (ux * wx + uy * wy) * ux ↔ 0 ≤ wx := by rw [hk]; exact mul_ge0 hS
    have e2 : 0 ≤ (-(ux * wx + uy * wy)) * (-ux) ↔ 0 ≤ -(ux * wx + uy * wy) := mul_ge0 (by omega)
    rw [Int.neg_mul_neg] at e2
    have w0 : wx = 0 → wy = 0 := fun e => by
      rw [e, Int.zero_mul] at h
      rcases Int.mul_eq_zero.1 h with h' | h' <;> omega
    have : wx = 0 ∨ wx ≠ 0 := by omega
    rcases this with e | e
    · have := w0 e
      omega
    · omega
  · subst u
    have h' : wx * uy = 0 := by omega
    simp only [Int.zero_mul, Int.zero_add]
    rcases Int.lt_trichotomy uy 0 with v | v | v
    · have wz : wx = 0 := by rcases Int.mul_eq_zero.1 h' with h' | h' <;> omega
      have e2 : 0 ≤ (-wy) * (-uy) ↔ 0 ≤ -wy := mul_ge0 (by omega)
      have e3 : 0 ≤ wy * (-uy) ↔ 0 ≤ wy := mul_ge0 (by omega)
      have e4 : wy * (-uy) = -(uy * wy) := by rw [Int.mul_neg, Int.mul_comm]
      omega
    · subst v
      simp only [Int.zero_mul]
      omega
    · have wz : wx = 0 := by rcases Int.mul_eq_zero.1 h' with h' | h' <;> omega
      have e3 : wy * uy ≤ 0 ↔ wy ≤ 0 := mul_le0 v
      have e4 : wy * uy = uy * wy := Int.mul_comm _ _
      omega
  · have hS := ss_pos (y := uy) (show ux ≠ 0 by omega)
    have e1 : (ux * wx + uy * wy) * ux ≤ 0 ↔ wx ≤ 0 := by rw [hk]; exact mul_le0 hS
    have e2 : (ux * wx + uy * wy) * ux ≤ 0 ↔ (ux * wx + uy * wy) ≤ 0 := mul_le0 u
    have w0 : wx = 0 → wy = 0 := fun e => by
      rw [e, Int.zero_mul] at h
      rcases Int.mul_eq_zero.1 h with h' | h' <;> omega
    have : wx = 0 ∨ wx ≠ 0 := by omega
    rcases this with e | e
    · have := w0 e
      omega
    · omega
theorem bnot_eq {α : Type} (p : α) [DecidableEq α] : (!decide (p = p)) = false := by rw [decide_eq_true rfl]; rfl
end Go.RX.S
