/- What the functions of radix, power, plumbref04, plumbref08 and plumblaw08 answer. -/
import Derived.Test.YtandibmpaamfbaaSf
set_option linter.unusedVariables false
set_option linter.unusedSimpArgs false
namespace Go.RX.S
open Go Go.RX

/-- Decimal digits as bytes, the highest first. -/
def dec10 (v : Nat) : List Int := if v = 0 then [48] else ((gcan 10 v).map (· + 48)).reverse
/-- The power of five in 128 bits: the bits, the frame, whether nothing is cut off. -/
def mant (e : Int) : Nat :=
  if 0 ≤ e then
    if blen (5 ^ e.toNat) ≤ 128 then 5 ^ e.toNat * 2 ^ (128 - blen (5 ^ e.toNat)) else 5 ^ e.toNat / 2 ^ (blen (5 ^ e.toNat) - 128)
  else 2 ^ (blen (5 ^ (-e).toNat) + 127) / 5 ^ (-e).toNat
def frm (e : Int) : Int := if 0 ≤ e then (blen (5 ^ e.toNat) : Int) - 128 else -((blen (5 ^ (-e).toNat) : Int) + 127)
def whl (e : Int) : Bool := decide (0 ≤ e) && (decide (blen (5 ^ e.toNat) ≤ 128) || decide (5 ^ e.toNat % 2 ^ (blen (5 ^ e.toNat) - 128) = 0))
def hiW (v : Nat) : Int := ((v / 18446744073709551616 : Nat) : Int)
def loW (v : Nat) : Int := ((v % 18446744073709551616 : Nat) : Int)
def rowOf (hi lo f : Int) (w : Bool) : List AV := [.int .u64 hi, .int .u64 lo, .int .i64 f, .bool w]
def row0 : List AV := rowOf 0 0 0 false
def rowE (e : Int) : List AV := rowOf (hiW (mant e)) (loW (mant e)) (frm e) (whl e)
/-- In the table? -/
def inT (e : Int) : Prop := -348 ≤ e ∧ e ≤ 347
instance (e : Int) : Decidable (inT e) := by unfold inT; exact inferInstance
/-- The least 128 bits not below: rounded up. -/
def abv (e : Int) : Int × Int × Int :=
  if whl e then (hiW (mant e), loW (mant e), frm e)
  else if mant e + 1 = 340282366920938463463374607431768211456 then (9223372036854775808, 0, frm e + 1) else (hiW (mant e + 1), loW (mant e + 1), frm e)
/-- The greatest n with ten to the n not above a number. -/
def lg10 (v : Nat) : Nat := (gcan 10 v).length - 1
noncomputable section
def basedF (n : Int) : Option Bool := gu (I64 n) (decide (2 ≤ n ∧ n ≤ 36))
def chunkF (n : Int) : Option (Int × Int) := gu (n = 10 ∨ n = 16) (if n = 10 then (10000000000000000000, 19) else (1152921504606846976, 15))
def writtenF (t : List Int × Int) : Option (List Int) := gu (V t.1 ∧ t.1.length ≤ 100000000 ∧ t.2 = 10) ((gcan 10 (val t.1)).map (· + 48))
def revyF (l : List Int × Unit) : Option (List Int × Unit) := gu (l.1.length ≤ 1000000000000) (l.1.reverse, ())
def TextF (t : List Int × Int) : Option (ByteArray × Int) := gu (V t.1 ∧ t.2 = 10) (if val t.1 < Lim then (strOfI (dec10 (val t.1)), 0) else (strOfI [], 21))
def Five5F (n : Int) : Option (List Int × Int) := gu (I64 n) (if 112899 < n then ([], 21) else powF 5 n)
def TenF (n : Int) : Option (List Int × Int) := gu (0 ≤ n ∧ n ≤ 2000) (can (10 ^ n.toNat), 0)
def CountF (x : List Int) : Option Int := gu (V x ∧ val x < Lim) ((dec10 (val x)).length : Int)
def Text4F (t : List Int × Int) : Option (ByteArray × Int) := gu (V t.1 ∧ t.1.length ≤ 1000000000 ∧ t.2 = 10) (if val t.1 < Lim then (strOfI (dec10 (val t.1)), 0) else (strOfI [], 21))
def Count4F (x : List Int) : Option Int := gu (V x ∧ x.length ≤ 1000000000 ∧ val x < Lim) ((dec10 (val x)).length : Int)
def sidesC (_ : Unit) : Option (List AV) := some [.fn 157, .fn 158]
def ptoldF (t : List Int × Int × Bool) : Option (List AV) := gu (V t.1) (if t.1.length = 2 then rowOf (t.1.getD 1 0) (t.1.getD 0 0) t.2.1 t.2.2 else row0)
def upF (e : Int) : Option (List AV) := gu (0 ≤ e ∧ e ≤ 347) (rowE e)
def downF (e : Int) : Option (List AV) := gu (-348 ≤ e ∧ e < 0) (rowE e)
def atF (e : Int) : Option (List AV × Bool) := gu (I64 e) (if inT e then (rowE e, true) else (row0, false))
def pFiveF (e : Int) : Option (Int × Int × Int × Int) := gu (I64 e) (if inT e then (hiW (mant e), loW (mant e), frm e, 0) else (0, 0, 0, 80))
def pWholeF (e : Int) : Option (Bool × Int) := gu (I64 e) (if inT e then (whl e, 0) else (false, 80))
def pAboveF (e : Int) : Option (Int × Int × Int × Int) := gu (I64 e) (if inT e then ((abv e).1, (abv e).2.1, (abv e).2.2, 0) else (0, 0, 0, 80))
def pLog2F (e : Int) : Option (Int × Int) := gu (I64 e) (if inT e then (frm e + 127 + e, 0) else (0, 80))
def pLog10F (e : Int) : Option (Int × Int) := gu (I64 e) (if -1200 ≤ e ∧ e ≤ 1200 then (if 0 ≤ e then (lg10 (2 ^ e.toNat) : Int) else -(lg10 (2 ^ (-e).toNat) : Int) - 1, 0) else (0, 80))
def tooLongF (x : List Int) : Option Bool := gu (V x) (decide (¬ val x < Lim))
def cut4F (x : List Int) : Option (List Int) := gu (x.length ≤ 17592186044416) (x.take (sz x))
def limbsF (x : List Int) : Option (List Int) := gu (W64 x ∧ x.length ≤ 1000000000) (gcan 4294967296 (val x))
def wordsF (l : List Int) : Option (List Int) := gu (Dg 4294967296 l ∧ l.length ≤ 1000000000) (can (gval 4294967296 l))
def putF (t : List Int × Int × Int) : Option (List Int) := gu (t.1 = gcan 4294967296 (gval 4294967296 t.1) ∧ t.1.length ≤ 1000000000 ∧ 0 < t.2.1 ∧ t.2.1 < 4294967296 ∧ 0 ≤ t.2.2 ∧ t.2.2 < 4294967296) (gcan 4294967296 (gval 4294967296 t.1 * t.2.1.toNat + t.2.2.toNat))
def take4F (t : List Int × Int) : Option (List Int × Int) := gu (Dg 4294967296 t.1 ∧ t.1.length ≤ 1000000000 ∧ 0 < t.2 ∧ t.2 < 4294967296) (gcan 4294967296 (gval 4294967296 t.1 / t.2.toNat), ((gval 4294967296 t.1 % t.2.toNat : Nat) : Int))
def step4F (n : Int) : Option (Int × Int) := gu (n = 10) (1000000000, 9)
def Power4F (t : Int × Int) : Option (List Int) := gu (0 < t.1 ∧ t.1 < 4294967296 ∧ 0 ≤ t.2 ∧ t.2 ≤ 1000000) (can (t.1.toNat ^ t.2.toNat))
def in4F (e : Int) : Option Bool := gu (I64 e) (decide (inT e))
def frameF (e : Int) : Option (List Int × Int) := gu (inT e) (can (mant e), frm e)
def aliveP (t : Unit) : Option Bool := gu True true
def shl8F (t : List Int × Int) : Option (List Int) := gu (V t.1 ∧ 0 ≤ t.2 ∧ t.2 ≤ 100000 ∧ blen (val t.1) ≤ 100000) (can (val t.1 * 2 ^ t.2.toNat))
def mul8F (t : List Int × List Int) : Option (List Int) := gu (V t.1 ∧ V t.2 ∧ val t.1 * val t.2 < Lim) (can (val t.1 * val t.2))
/-- A number, times a power of two, against a power of five. -/
def agn (v : Nat) (x e : Int) : Int := sgn (v * 5 ^ (-e).toNat * 2 ^ x.toNat) (5 ^ e.toNat * 2 ^ (-x).toNat)
def againstF (t : List Int × Int × Int) : Option Int := gu (V t.1 ∧ blen (val t.1) ≤ 1000 ∧ -10000 ≤ t.2.1 ∧ t.2.1 ≤ 10000 ∧ -1000 ≤ t.2.2 ∧ t.2.2 ≤ 1000) (agn (val t.1) t.2.1 t.2.2)
def orderedF (t : Int × Int) : Option Bool := gu (-3000 ≤ t.1 ∧ t.1 ≤ 3000 ∧ -1000 ≤ t.2 ∧ t.2 ≤ 1000) (decide (2 ^ t.1.toNat * 10 ^ (-t.2).toNat ≤ 2 ^ (-t.1).toNat * 10 ^ t.2.toNat))
def turnedF (t : Int × Int) : Option Bool := gu (-1000 ≤ t.1 ∧ t.1 ≤ 1000 ∧ -1300 ≤ t.2 ∧ t.2 ≤ 1300) (decide (2 ^ (-t.2).toNat * 10 ^ t.1.toNat ≤ 2 ^ t.2.toNat * 10 ^ (-t.1).toNat))
def PowerRisesF (e : Int) : Option Bool := gu (I64 e) true
def PowerProductsF (t : Int × Int) : Option Bool := gu (I64 t.1 ∧ I64 t.2) true
def PowerBoundsF (e : Int) : Option Bool := gu (I64 e) true
def PowerTensF (e : Int) : Option Bool := gu (I64 e) true
def PowerStaysF (t : Int × List Int) : Option Bool := gu (I64 t.1 ∧ (∀ x ∈ t.2, I64 x) ∧ t.2.length ≤ 17592186043904) true
def PowerFivesF (e : Int) : Option Bool := gu (I64 e) true
end
end Go.RX.S
