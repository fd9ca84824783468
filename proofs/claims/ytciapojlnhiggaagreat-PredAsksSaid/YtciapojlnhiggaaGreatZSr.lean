/- Whole numbers with a sign, as plumbref22 keeps them. -/
import Derived.Test.YtciapojlnhiggaaGreatZSp
set_option linter.unusedVariables false
set_option linter.unusedSimpArgs false
namespace Go.RX.S
open Go Go.RX
noncomputable section
def zneg (l : List AV) : Bool := (aget l 0).toBool
def zn (l : List AV) : Nat := val (aget l 1).asInts
def zL (b : Bool) (n : Nat) : List AV := [.bool b, .ints .u64 (can n)]
def zI (l : List AV) : Int := sg (zneg l) (zn l)
def isZ (B : Nat) (l : List AV) : Prop := l = zL (zneg l) (zn l) ∧ blen (zn l) ≤ B
def addZ (a b : List AV) : List AV := if zneg a = zneg b then zL (zneg a) (zn a + zn b) else if zn b ≤ zn a then zL (zneg a) (zn a - zn b) else zL (zneg b) (zn b - zn a)
def negZ (a : List AV) : List AV := zL (!zneg a) (zn a)
def subZ (a b : List AV) : List AV := addZ a (negZ b)
def mulZ (a b : List AV) : List AV := zL (zneg a != zneg b) (zn a * zn b)
def zAddF (t : List AV × List AV) : Option (List AV) := gu (isZ 50000 t.1 ∧ isZ 50000 t.2) (addZ t.1 t.2)
def zSubF (t : List AV × List AV) : Option (List AV) := gu (isZ 50000 t.1 ∧ isZ 50000 t.2) (subZ t.1 t.2)
def zMulF (t : List AV × List AV) : Option (List AV) := gu (isZ 50000 t.1 ∧ isZ 50000 t.2) (mulZ t.1 t.2)
def zSignF (a : List AV) : Option Int := gu (isZ 50000 a) (sgnI (zI a))
def zfinF (b : Int) : Option Bool := gu (Wd b) (decide (ee b ≠ 2047))
/-- A pattern's number, in units of two to the -1074. -/
def zE (b : Int) : Nat := (if ee b = 0 then 0 else ee b - 1).toNat
def wZ (b : Int) : List AV := zL (ng b) (mt b * 2 ^ zE b)
def zWholeF (b : Int) : Option (List AV) := gu (Wd b) (wZ b)
/-- A place. -/
def zpX (p : List AV) : List AV := p.take 2
def zpY (p : List AV) : List AV := p.drop 2
def isZP (B : Nat) (p : List AV) : Prop := isZ B (zpX p) ∧ isZ B (zpY p)
def zAtV (p : List AV) : List AV := wZ (px p) ++ wZ (py p)
def zAtF (p : List AV) : Option (List AV) := gu (isPt p) (zAtV p)
def minusZ (a b : List AV) : List AV := subZ (zpX a) (zpX b) ++ subZ (zpY a) (zpY b)
def zMinusF (t : List AV × List AV) : Option (List AV) := gu (isZP 40000 t.1 ∧ isZP 40000 t.2) (minusZ t.1 t.2)
def crossZ (a b : List AV) : List AV := subZ (mulZ (zpX a) (zpY b)) (mulZ (zpY a) (zpX b))
def zCrossF (t : List AV × List AV) : Option (List AV) := gu (isZP 20000 t.1 ∧ isZP 20000 t.2) (crossZ t.1 t.2)
def turnZ (a b c : List AV) : List AV := crossZ (minusZ (zAtV b) (zAtV a)) (minusZ (zAtV c) (zAtV a))
def zTurnF (t : List AV × List AV × List AV) : Option (List AV) := gu (isP3 t.1 t.2.1 t.2.2) (turnZ t.1 t.2.1 t.2.2)
def squareZ (p : List AV) : List AV := addZ (mulZ (zpX p) (zpX p)) (mulZ (zpY p) (zpY p))
def zSquareF (p : List AV) : Option (List AV) := gu (isZP 20000 p) (squareZ p)
def zInsideF (t : List AV × List AV × List AV) : Option Bool := gu (isZ 40000 t.1 ∧ isZ 40000 t.2.1 ∧ isZ 40000 t.2.2) (decide (sgnI (zI t.2.2 - zI t.1) * sgnI (zI t.2.2 - zI t.2.1) ≤ 0))
def zCompareF (t : List AV × List AV) : Option Int := gu (isPt t.1 ∧ isPt t.2) (orP t.1 t.2)
def sameRat22F (t : List AV × List AV) : Option Bool := gu ((aget t.1 1).asInts.length ≤ 17609365913600 ∧ (aget t.1 2).asInts.length ≤ 17609365913600) (@decide ((aget t.1 0).toBool = (aget t.2 0).toBool ∧ (aget t.1 1).asInts = (aget t.2 1).asInts ∧ (aget t.1 2).asInts = (aget t.2 2).asInts) (Classical.propDecidable _))
def PredAsksF (q : List AV) : Option Bool := gu (W8 q) true
end
end Go.RX.S
