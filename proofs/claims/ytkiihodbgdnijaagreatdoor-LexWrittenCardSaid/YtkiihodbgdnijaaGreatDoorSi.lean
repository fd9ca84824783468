/- What the functions of plumblaw09 answer, as plain Lean. -/
import Derived.Test.YtkiihodbgdnijaaGreatDoorKb
import Derived.Test.YtkiihodbgdnijaaGreatDoorQe
set_option linter.unusedVariables false
set_option linter.unusedSimpArgs false
namespace Go.RX.S

/-- number, by the depth of its calls. -/
def x9numKF : Nat → Int → Option ByteArray
  | 0, _ => none
  | k + 1, n => cond (decide (0 ≤ n) && decide (n ≤ 9223372036854775807)) (cond (decide (n < 10)) (some (sb (Lib.decDigits n.toNat))) ((x9numKF k (n / 10)).map fun _ => sb (Lib.decDigits n.toNat))) none
def x9numF : Int → Option ByteArray := fun n => cond (decide (0 ≤ n) && decide (n ≤ 9223372036854775807)) (some (sb (Lib.decDigits n.toNat))) none
def x9signF : Int × Bool → Option ByteArray := fun (n, p) => some (sb (cond (decide (n < 0)) [45] (cond p [43] [])))
def x9signlessF : ByteArray → Option ByteArray := fun s => cond (lim s) (some (sb (signless (bs s)))) none
def hexB (b : UInt8) : Bool := isD b || isX b || (decide (65 ≤ b.toNat) && decide (b.toNat ≤ 70))
def x9digitF : Int × Bool → Option Bool := fun (c, x) => some ((decide (48 ≤ c) && decide (c ≤ 57)) || (x && ((decide (97 ≤ c) && decide (c ≤ 102)) || (decide (65 ≤ c) && decide (c ≤ 70)))))
def allB (l : List UInt8) (x : Bool) : Bool := !l.isEmpty && l.all fun b => isD b || (x && hexB b)
def x9allF : ByteArray × Bool → Option Bool := fun (s, x) => cond (lim s) (some (allB (bs s) x)) none
/-- One digit: small or great letters. -/
def digB (big : Bool) (n : Int) : UInt8 := UInt8.ofNat (n.toNat + cond (decide (n < 10)) 48 (cond big 55 87))
/-- Digits of a base, at most 40. -/
def digsL (l : List Int) (base : Int) (big : Bool) : List UInt8 := (l.take 40).map fun n => digB big (n % base)
def x9digitsF : List Int × Int × Bool → Option ByteArray := fun (l, base, big) => cond ((decide (base = 10) || decide (base = 16)) && l.all (fun n => decide (-9223372036854775808 ≤ n) && decide (n ≤ 9223372036854775807))) (some (sb (digsL l base big))) none
def x9aliveF : Unit → Option Bool := fun _ => some true
/-- bare: without zeros ahead, in small letters. -/
def lowX (b : UInt8) : UInt8 := cond (decide (65 ≤ b.toNat) && decide (b.toNat ≤ 70)) (b + 32) b
def bareL (l : List UInt8) : List UInt8 := (baredL l).map lowX
def x9bareF : ByteArray → Option ByteArray := fun s => cond (lim s) (some (sb (bareL (bs s)))) none
/-- plumblaw09.Piece. -/
structure Pc where
  kind : Int
  sign : Int
  head : List Int
  tail : List Int
  point : Bool
  noexp : Bool
  e : Int
  plus : Bool
  big : Bool
def Pc.of (a : List AV) : Pc := ⟨(aget a 0).toInt, (aget a 1).toInt, (aget a 2).asInts, (aget a 3).asInts, (aget a 4).toBool, (aget a 5).toBool, (aget a 6).toInt, (aget a 7).toBool, (aget a 8).toBool⟩
def inI64 (n : Int) : Bool := decide (-9223372036854775808 ≤ n) && decide (n ≤ 9223372036854775807)
def Pc.ok (p : Pc) : Bool := inI64 p.kind && inI64 p.sign && inI64 p.e && p.head.all inI64 && p.tail.all inI64
def signL (n : Int) (plus : Bool) : List UInt8 := cond (decide (n < 0)) [45] (cond plus [43] [])
/-- What a piece is written as, and what it says. -/
def madeN (p : Pc) : List UInt8 × Nm :=
  let kind := p.kind % 3
  let sg := signL (p.sign % 3 - 1) p.plus
  let neg := sg == [45]
  let base : Int := cond (decide (kind = 1)) 16 10
  let h0 := digsL p.head base p.big
  let t0 := digsL p.tail base p.big
  cond (decide (kind = 2))
    (let h := cond h0.isEmpty [55] h0
     let t := cond t0.isEmpty [48, 50] t0
     (sg ++ h ++ [47] ++ t, ⟨3, neg, bareL h, 0, bareL t⟩))
    (let h := cond (h0.isEmpty && t0.isEmpty) [48] h0
     let body := cond (!t0.isEmpty || p.point) (h ++ [46] ++ t0) h
     let e := p.e.tmod 100000
     let x := signL e p.plus ++ Lib.decDigits e.natAbs
     let num := bareL (h ++ t0)
     cond (decide (kind = 1)) (sg ++ [48, cond p.big 88 120] ++ body ++ [cond p.big 80 112] ++ x, ⟨2, neg, num, e - 4 * t0.length, []⟩)
       (cond p.noexp (sg ++ body, ⟨1, neg, num, -(t0.length : Int), []⟩)
         (sg ++ body ++ [cond p.big 69 101] ++ x, ⟨1, neg, num, e - t0.length, []⟩)))
def x9madeF : List AV → Option (ByteArray × List AV) := fun a => cond (Pc.of a).ok (some (sb (madeN (Pc.of a)).1, (madeN (Pc.of a)).2.to)) none
end Go.RX.S
