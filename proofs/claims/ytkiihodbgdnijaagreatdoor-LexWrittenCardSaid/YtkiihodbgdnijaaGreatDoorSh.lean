/- What the functions of lex answer, as plain Lean. -/
import Derived.Test.YtkiihodbgdnijaaGreatDoorHt
import Derived.Test.YtkiihodbgdnijaaGreatDoorSc
set_option linter.unusedVariables false
set_option linter.unusedSimpArgs false
namespace Go.RX.S

/-- Texts are at most so long, here. -/
def lim (s : ByteArray) : Bool := decide (s.size ≤ 1000000)
def cutB (l : List UInt8) (b : UInt8) : List UInt8 × List UInt8 × Bool := (l.takeWhile (· != b), (l.dropWhile (· != b)).tail, l.contains b)
def cutL9F : ByteArray × ByteArray → Option (ByteArray × ByteArray × Bool) := fun (s, c) => match bs c with
  | [b] => cond (lim s) (some (sb (cutB (bs s) b).1, sb (cutB (bs s) b).2.1, (cutB (bs s) b).2.2)) none
  | _ => none
def cutSF : ByteArray × ByteArray → Option (ByteArray × ByteArray × Bool) := cutL9F
def isD (b : UInt8) : Bool := decide (48 ≤ b.toNat) && decide (b.toNat ≤ 57)
def isX (b : UInt8) : Bool := decide (97 ≤ b.toNat) && decide (b.toNat ≤ 102)
def xDigitF : Int → Option (Bool) := fun c => some (decide (48 ≤ (c : Int)) && decide ((c : Int) ≤ 57))
def plainB (l : List UInt8) (hex : Bool) : Bool := decide (l.length ≤ 65536) && (match l with | b :: _ => b.toNat != 48 | [] => true) && l.all fun b => isD b || (hex && isX b)
def xPlainF : ByteArray × Bool → Option (Bool) := fun (s, x) => cond (lim s) (some (plainB (bs s) x)) none
def heldI (n : Int) : Int := min (max n (-1073741824)) 1073741824
def xHeldF : Int → Option (Int) := fun n => some (heldI n)
/-- api.Numeral. -/
structure Nm where
  kind : Int
  neg : Bool
  num : List UInt8
  exp : Int
  den : List UInt8
deriving DecidableEq
def Nm.of (l : List AV) : Nm := ⟨(aget l 0).toInt, (aget l 1).toBool, bs (aget l 2).toStr, (aget l 3).toInt, bs (aget l 4).toStr⟩
def Nm.to (n : Nm) : List AV := [.int .i64 n.kind, .bool n.neg, .str (sb n.num), .int .i64 n.exp, .str (sb n.den)]
def Nm.ok (n : Nm) : Bool := decide (n.num.length ≤ 1000000) && decide (n.den.length ≤ 1000000)
def checkB (n : Nm) : Bool :=
  (decide (n.kind = 1 ∨ n.kind = 2) && (plainB n.num (decide (n.kind = 2)) && (n.den.isEmpty && decide (heldI n.exp = n.exp)))) ||
  (decide (n.kind = 3) && (plainB n.num false && (plainB n.den false && decide (n.exp = 0))))
def xCheckF : List AV → Option (Int) := fun l => cond (Nm.of l).ok (some (cond (checkB (Nm.of l)) (0 : Int) 90)) none
def xSomeF : ByteArray → Option (ByteArray) := fun s => some (cond (bs s).isEmpty (sb [48]) s)
def baredL (l : List UInt8) : List UInt8 := l.dropWhile (· == 48)
def xBaredF : ByteArray → Option (ByteArray) := fun s => some (sb (baredL (bs s)))
/-- The value of digits. -/
def digs (l : List UInt8) : Int := l.foldl (fun n b => n * 10 + ((b.toNat : Int) - 48)) 0
def isS (b : UInt8) : Bool := b == 43 || b == 45
def expD (l : List UInt8) : List UInt8 := baredL (l.dropWhile isS)
def expN (l : List UInt8) : Int := cond (decide ((expD l).length < 13)) (digs (expD l)) 1099511627776
def expV (l : List UInt8) : Int := match l with
  | [] => 0
  | b :: _ => cond (b == 45) (-(expN l)) (expN l)
def xExpoF : ByteArray → Option (Int) := fun s => cond (lim s && (expD (bs s)).all isD) (some (expV (bs s))) none
def signless (l : List UInt8) : List UInt8 := match l with
  | b :: r => cond (isS b) r (b :: r)
  | [] => []
def mantE (l : List UInt8) (kind : Int) : List UInt8 × List UInt8 × Bool := cond (decide (kind = 2)) (cutB ((Lib.toLowerA l).drop 2) 112) (cutB (Lib.toLowerA l) 101)
def saysR (r : List UInt8) (neg : Bool) (kind : Int) : Nm :=
  cond (decide (kind = 3)) ⟨3, neg, baredL (cutB r 47).1, 0, baredL (cutB r 47).2.1⟩
    (let c := mantE r kind
     let d := cutB c.1 46
     ⟨kind, neg, baredL (d.1 ++ d.2.1), heldI (expV c.2.1 - (cond (decide (kind = 2)) 4 1) * d.2.1.length), []⟩)
def negL : List UInt8 → Bool
  | b :: _ => b == 45
  | [] => false
def saysN (l : List UInt8) (kind : Int) : Nm := saysR (signless l) (negL l) kind
def saysOk (l : List UInt8) (kind : Int) : Bool :=
  !l.isEmpty && asc l && decide (l.length ≤ 1000000) && (decide (kind = 3) || ((!(decide (kind = 2)) || decide (2 ≤ (signless l).length)) && (expD (mantE (signless l) kind).2.1).all isD))
def xSaysF : ByteArray × Int → Option (List AV) := fun (s, k) => cond (saysOk (bs s) k) (some (saysN (bs s) k).to) none
/-- What the longest numeral is: its kind and its length. -/
def long (l : List UInt8) : Int × Int := lgo ((l.map fun b => (b.toNat : Int)).take 65536) 133 0 (0, 0)
def noNm : Nm := ⟨0, false, [], 0, []⟩
def scanN (l : List UInt8) (from_ : Int) : Nm × Int × Option (Int × Int) :=
  cond (decide (0 ≤ from_) && decide (from_ ≤ (l.length : Int)))
    (let r := l.drop from_.toNat
     let R := long r
     cond (decide (R.1 = 0)) (noNm, 0, some (from_, 90)) (saysN (r.take R.2.toNat) R.1, from_ + R.2, none))
    (noNm, 0, some (from_, 90))
def scanOk (l : List UInt8) (from_ : Int) : Bool := decide (l.length ≤ 1000000) && (!(decide (0 ≤ from_) && decide (from_ ≤ (l.length : Int))) || (let r := l.drop from_.toNat
     let R := long r
     decide (R.1 = 0) || (saysOk (r.take R.2.toNat) R.1 && decide (0 ≤ R.2) && decide (R.2 ≤ r.length))))
def xScanF : ByteArray × Int → Option (List AV × Int × Option (Int × Int)) := fun (s, f) => cond (scanOk (bs s) f) (some ((scanN (bs s) f).1.to, (scanN (bs s) f).2.1, (scanN (bs s) f).2.2)) none
def parseS (l : List UInt8) : Nm × Int × Option (Int × Int) → Nm × Option (Int × Int)
  | (_, _, some e) => (noNm, some e)
  | (n, e, none) => match l.drop e.toNat with
    | [] => (n, none)
    | b :: _ => (noNm, some (e, cond (isS b) 91 (cond ([101, 69, 112, 80].contains b) 92 90)))
def parseN (l : List UInt8) : Nm × Option (Int × Int) := parseS l (scanN l 0)
def xParseF : ByteArray → Option (List AV × Option (Int × Int)) := fun s => cond (scanOk (bs s) 0) (some ((parseN (bs s)).1.to, (parseN (bs s)).2)) none
/-- n, brought below a bound. -/
def into9F : Int × Int → Option (Int) := fun (n, m) => cond (decide ((0 : Int) < m) && decide ((m : Int) ≤ 9223372036854775807) && decide (-9223372036854775808 ≤ (n : Int)) && decide ((n : Int) ≤ 9223372036854775807)) (some ((n : Int) % m)) none
def cut9F : ByteArray → Option (ByteArray) := fun s => some (sb ((bs s).take 300))
def LexLongF : Int × Int → Option Bool := fun (a, b) => cond (decide (-9223372036854775808 ≤ a) && decide (a ≤ 9223372036854775807) && decide (-9223372036854775808 ≤ b) && decide (b ≤ 9223372036854775807)) (some true) none
end Go.RX.S
