/- What the functions of wide and nat answer. -/
import Derived.Test.YtciapojlnhiggaaGreatZSc
set_option linter.unusedVariables false
set_option linter.unusedSimpArgs false
namespace Go.RX.S
open Go Go.RX
/-- How many words an answered number has at most. -/
def lw : Nat := 4096
theorem lw_eq : lw = 4096 := rfl
/-- One more than the greatest number that is answered. -/
def Lim : Nat := 18446744073709551616 ^ lw
theorem Lim_pow : Lim = 2 ^ (64 * lw) := by
  have : (18446744073709551616 : Nat) = 2 ^ 64 := rfl
  unfold Lim
  rw [this, ← Nat.pow_mul]
theorem lt_Lim {v n : Nat} (h : v < 18446744073709551616 ^ n) (hn : n ≤ lw) : v < Lim := Nat.lt_of_lt_of_le h (Nat.pow_le_pow_right (by omega) hn)
theorem U_can {v : Nat} (h : v < Lim) : U (can v) := by
  refine ⟨can_ok v, ?_⟩
  have := can_len (n := lw) h
  rw [lw_eq] at this
  omega
/-- Zeros at the low end. -/
def tz (v : Nat) : Nat := if h : v = 0 then 0 else if v % 2 = 1 then 0 else tz (v / 2) + 1
termination_by v
decreasing_by omega
noncomputable section
def wAddF (t : Int × Int × Int) : Option (Int × Int) := gu (Wd t.1 ∧ Wd t.2.1 ∧ Wd t.2.2) ((t.1 + t.2.1 + t.2.2 % 2) % 18446744073709551616, (t.1 + t.2.1 + t.2.2 % 2) / 18446744073709551616)
def wSubF (t : Int × Int × Int) : Option (Int × Int) := gu (Wd t.1 ∧ Wd t.2.1 ∧ Wd t.2.2) ((t.1 - t.2.1 - t.2.2 % 2) % 18446744073709551616, if t.1 < t.2.1 + t.2.2 % 2 then 1 else 0)
def wMulF (t : Int × Int) : Option (Int × Int) := gu (Wd t.1 ∧ Wd t.2) (t.1 * t.2 / 18446744073709551616, t.1 * t.2 % 18446744073709551616)
def wCmpF (t : Int × Int × Int × Int) : Option Int := gu True (if t.1 < t.2.2.1 ∨ t.1 = t.2.2.1 ∧ t.2.1 < t.2.2.2 then -1 else if t.1 = t.2.2.1 ∧ t.2.1 = t.2.2.2 then 0 else 1)
def wLenF (t : Int) : Option Int := gu (Wd t) (blen t.toNat : Int)
def wWithinF (t : Int) : Option Int := gu True (if t < 0 then 0 else if 128 < t then 128 else t)
def wShlF (t : Int × Int × Int) : Option (Int × Int) := gu (Wd t.1 ∧ Wd t.2.1 ∧ 0 ≤ t.2.2 ∧ t.2.2 < 64) (((t.1.toNat * 2 ^ t.2.2.toNat % 18446744073709551616 + t.2.1.toNat * 2 ^ t.2.2.toNat / 18446744073709551616 : Nat) : Int), ((t.2.1.toNat * 2 ^ t.2.2.toNat % 18446744073709551616 : Nat) : Int))
def wShrF (t : Int × Int × Int) : Option (Int × Int × Bool) := gu (Wd t.1 ∧ Wd t.2.1 ∧ 0 ≤ t.2.2 ∧ t.2.2 < 64) (((t.1.toNat / 2 ^ t.2.2.toNat : Nat) : Int), (((t.2.1.toNat + 18446744073709551616 * t.1.toNat) / 2 ^ t.2.2.toNat % 18446744073709551616 : Nat) : Int), decide (t.2.1.toNat % 2 ^ t.2.2.toNat ≠ 0))
def nSizeF (x : List Int) : Option Int := gu (U x) (sz x : Int)
def nNormF (x : List Int) : Option (List Int) := gu (U x) (can (val x))
def bnd (v : Nat) : List Int × Int := if v < Lim then (can v, 0) else ([], 21)
def nBoundF (x : List Int) : Option (List Int × Int) := gu (U x) (bnd (val x))
def nFromF (t : Int) : Option (List Int) := gu (Wd t) (can t.toNat)
def nWordF (x : List Int) : Option (Int × Bool) := gu (U x) (if val x < 18446744073709551616 then ((val x : Int), true) else (0, false))
def sgn (a b : Nat) : Int := if a < b then -1 else if a = b then 0 else 1
def nCmpF (t : List Int × List Int) : Option Int := gu (U t.1 ∧ U t.2) (sgn (val t.1) (val t.2))
def nsumF (t : List Int × List Int) : Option (List Int) := gu (U t.1 ∧ U t.2) (dig (max t.1.length t.2.length + 1) (val t.1 + val t.2))
/-- A list that may be lengthened: it is below any limit by far. -/
def V (x : List Int) : Prop := W64 x ∧ x.length ≤ 17592186044416
def nAddF (t : List Int × List Int) : Option (List Int × Int) := gu (V t.1 ∧ V t.2) (bnd (val t.1 + val t.2))
def nSubF (t : List Int × List Int) : Option (List Int × Int) := gu (V t.1 ∧ V t.2) (if val t.1 < val t.2 then ([], 20) else bnd (val t.1 - val t.2))
def nMulF (t : List Int × List Int) : Option (List Int × Int) := gu (V t.1 ∧ V t.2) (bnd (val t.1 * val t.2))
def nShlF (t : List Int × Int) : Option (List Int × Int) := gu (V t.1 ∧ t.2 ≤ 9223372036854775807) (if t.2 < 0 then ([], 22) else if val t.1 = 0 then ([], 0) else if blen (val t.1) + t.2.toNat ≤ 262144 then (can (val t.1 * 2 ^ t.2.toNat), 0) else ([], 21))
def nShrF (t : List Int × Int) : Option (List Int × Bool × Int) := gu (V t.1 ∧ t.2 ≤ 9223372036854775807) (if t.2 < 0 then ([], false, 22) else if (blen (val t.1) : Int) ≤ t.2 then ([], decide (0 < val t.1), 0) else if 262144 < (blen (val t.1) : Int) - t.2 then ([], false, 21) else (can (val t.1 / 2 ^ t.2.toNat), decide (val t.1 % 2 ^ t.2.toNat ≠ 0), 0))
def nBitsF (x : List Int) : Option Int := gu (V x) (blen (val x) : Int)
def nBitF (t : List Int × Int) : Option Int := gu (V t.1 ∧ t.2 ≤ 9223372036854775807) (if t.2 < 0 then 0 else ((val t.1 / 2 ^ t.2.toNat % 2 : Nat) : Int))
def rows (l : List AV) : List (List Int) := l.map AV.asInts
def sameF (t : List Int × List Int) : Option Bool := gu (t.1.length ≤ 17609365913600) (@decide (t.1 = t.2) (Classical.propDecidable _))
def okp (v : Nat) : List Int × Bool := if v < Lim then (can v, true) else ([], false)
def addF (t : List Int × List Int) : Option (List Int × Bool) := gu (V t.1 ∧ V t.2) (okp (val t.1 + val t.2))
def mulF (t : List Int × List Int) : Option (List Int × Bool) := gu (V t.1 ∧ V t.2) (okp (val t.1 * val t.2))
/-- A number that a caller hands in. -/
def I64 (n : Int) : Prop := -9223372036854775808 ≤ n ∧ n ≤ 9223372036854775807
end
theorem V.U {x : List Int} (h : V x) : U x := ⟨h.1, by have := h.2; omega⟩
theorem V_can {v : Nat} (h : v < Lim) : V (can v) := by
  refine ⟨can_ok v, ?_⟩
  have := can_len (n := lw) h
  rw [lw_eq] at this
  omega
end Go.RX.S
