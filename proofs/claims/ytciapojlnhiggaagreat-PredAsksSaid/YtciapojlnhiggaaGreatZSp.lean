/- Rational numbers as they are kept. -/
import Derived.Test.YtciapojlnhiggaaGreatZSf
set_option linter.unusedVariables false
set_option linter.unusedSimpArgs false
namespace Go.RX.S
open Go Go.RX
noncomputable section
/-- A rational number as a struct's parts. -/
def ratL (q : Rat) : List AV := [.bool (decide (q.num < 0)), .ints .u64 (can q.num.natAbs), .ints .u64 (can q.den)]
def qNum (l : List AV) : Int := if (aget l 0).toBool then -(val (aget l 1).asInts : Int) else (val (aget l 1).asInts : Int)
def qDen (l : List AV) : Nat := val (aget l 2).asInts
def qOf (l : List AV) : Rat := mkRat (qNum l) (qDen l)
theorem qNum_ratL (q : Rat) : qNum (ratL q) = q.num := by
  have : qNum (ratL q) = if decide (q.num < 0) = true then -(val (can q.num.natAbs) : Int) else (val (can q.num.natAbs) : Int) := rfl
  rw [this, val_can]
  by_cases h : q.num < 0
  · rw [if_pos (by simp [h])]
    omega
  · rw [if_neg (by simp [h])]
    omega
theorem qDen_ratL (q : Rat) : qDen (ratL q) = q.den := val_can _
theorem qOf_ratL (q : Rat) : qOf (ratL q) = q := by rw [qOf, qNum_ratL, qDen_ratL, Rat.mkRat_self]
def isR (l : List AV) : Prop := l = ratL (qOf l)
theorem isR_ratL (q : Rat) : isR (ratL q) := by rw [isR, qOf_ratL]
/-- A number by its sign. -/
def sg (neg : Bool) (n : Nat) : Int := if neg then -(n : Int) else (n : Int)
theorem sg_abs (neg : Bool) (n : Nat) : (sg neg n).natAbs = n := by unfold sg; split <;> omega
theorem sg_div {neg : Bool} {n g : Nat} (h : g ∣ n) : sg neg n / (g : Int) = sg neg (n / g) := by
  obtain ⟨k, rfl⟩ := h
  rcases Nat.eq_zero_or_pos g with rfl | hg
  · cases neg <;> simp [sg]
  · have hg' : (g : Int) ≠ 0 := by omega
    rw [Nat.mul_div_cancel_left _ hg]
    unfold sg
    split
    · rw [Int.natCast_mul, ← Int.mul_neg, Int.mul_ediv_cancel_left _ hg']
    · rw [Int.natCast_mul, Int.mul_ediv_cancel_left _ hg']
theorem num_mk {neg : Bool} {n d : Nat} (hd : d ≠ 0) : (mkRat (sg neg n) d).num = sg neg (n / Nat.gcd n d) := by
  rw [Rat.num_mkRat, if_neg hd, sg_abs, Nat.gcd_comm, sg_div (Nat.gcd_dvd_left _ _)]
theorem den_mk {neg : Bool} {n d : Nat} (hd : d ≠ 0) : (mkRat (sg neg n) d).den = d / Nat.gcd n d := by
  rw [Rat.den_mkRat, if_neg hd, sg_abs, Nat.gcd_comm]
theorem sg_neg {neg : Bool} {n : Nat} : decide (sg neg n < 0) = (neg && decide (n ≠ 0)) := by
  unfold sg
  cases neg
  · simp
  · rcases Nat.eq_zero_or_pos n with rfl | h
    · simp
    · have h1 : -(n : Int) < 0 := by omega
      have h2 : n ≠ 0 := by omega
      simp [h1, h2, h]
theorem ratL_mk {neg : Bool} {n d : Nat} (hd : d ≠ 0) : ratL (mkRat (sg neg n) d) = [.bool (neg && decide (n / Nat.gcd n d ≠ 0)), .ints .u64 (can (n / Nat.gcd n d)), .ints .u64 (can (d / Nat.gcd n d))] := by
  rw [ratL, num_mk hd, den_mk hd, sg_abs, sg_neg]
theorem bl_mono {a b : Nat} (h : a ≤ b) : blen a ≤ blen b := by
  rw [blen_le_iff]
  exact Nat.lt_of_le_of_lt h ((blen_le_iff _ b).1 (Nat.le_refl _))
theorem bl_mul (a b : Nat) : blen (a * b) ≤ blen a + blen b := by
  rw [blen_le_iff, Nat.pow_add]
  exact Nat.mul_lt_mul'' ((blen_le_iff _ a).1 (Nat.le_refl _)) ((blen_le_iff _ b).1 (Nat.le_refl _))
theorem bl_add (a b : Nat) : blen (a + b) ≤ max (blen a) (blen b) + 1 := by
  rw [blen_le_iff, Nat.pow_succ]
  have h1 := (blen_le_iff (max (blen a) (blen b)) a).1 (by omega)
  have h2 := (blen_le_iff (max (blen a) (blen b)) b).1 (by omega)
  omega
def qsz (q : Rat) : Nat := max (blen q.num.natAbs) (blen q.den)
theorem dvd_abs {g : Nat} {n : Int} (h : g ∣ n.natAbs) : (g : Int) ∣ n := Int.ofNat_dvd_left.2 h
theorem natAbs_div_le (n : Int) (g : Nat) (h : (g : Int) ∣ n) : (n / (g : Int)).natAbs ≤ n.natAbs := by
  obtain ⟨k, rfl⟩ := h
  rcases Nat.eq_zero_or_pos g with rfl | hg
  · simp
  · rw [Int.mul_ediv_cancel_left _ (by omega), Int.natAbs_mul]
    exact Nat.le_mul_of_pos_left _ (by simpa using hg)
theorem qsz_mul (a b : Rat) : qsz (a * b) ≤ qsz a + qsz b := by
  unfold qsz
  have h1 : (a * b).num.natAbs ≤ a.num.natAbs * b.num.natAbs := by
    rw [Rat.num_mul, ← Int.natAbs_mul]
    exact natAbs_div_le _ _ (dvd_abs (Nat.gcd_dvd_left _ _))
  have h2 : (a * b).den ≤ a.den * b.den := by
    rw [Rat.den_mul]
    exact Nat.div_le_self _ _
  have h3 := bl_mono h1
  have h4 := bl_mono h2
  have h5 := bl_mul a.num.natAbs b.num.natAbs
  have h6 := bl_mul a.den b.den
  omega
theorem qsz_add (a b : Rat) : qsz (a + b) ≤ qsz a + qsz b + 1 := by
  unfold qsz
  have h1 : (a + b).num.natAbs ≤ a.num.natAbs * b.den + b.num.natAbs * a.den := by
    rw [Rat.num_add]
    refine Nat.le_trans (natAbs_div_le _ _ (dvd_abs (Nat.gcd_dvd_left _ _))) ?_
    refine Nat.le_trans (Int.natAbs_add_le _ _) ?_
    rw [Int.natAbs_mul, Int.natAbs_mul]
    exact Nat.le_refl _
  have h2 : (a + b).den ≤ a.den * b.den := by
    rw [Rat.den_add]
    exact Nat.div_le_self _ _
  have h3 := bl_mono h1
  have h4 := bl_mono h2
  have h5 := bl_add (a.num.natAbs * b.den) (b.num.natAbs * a.den)
  have h6 := bl_mul a.num.natAbs b.den
  have h7 := bl_mul b.num.natAbs a.den
  have h8 := bl_mul a.den b.den
  omega
theorem qsz_neg (a : Rat) : qsz (-a) = qsz a := by unfold qsz; rw [Rat.neg_num, Rat.neg_den, Int.natAbs_neg]
theorem qsz_sub (a b : Rat) : qsz (a - b) ≤ qsz a + qsz b + 1 := by
  rw [Rat.sub_eq_add_neg]
  have := qsz_add a (-b)
  rw [qsz_neg] at this
  exact this
theorem num_sg (q : Rat) : q = mkRat (sg (decide (q.num < 0)) q.num.natAbs) q.den := by
  have : sg (decide (q.num < 0)) q.num.natAbs = q.num := by
    unfold sg
    by_cases h : q.num < 0
    · rw [if_pos (by simp [h])]; omega
    · rw [if_neg (by simp [h])]; omega
  rw [this, Rat.mkRat_self]
theorem sg_mul (s t : Bool) (n m : Nat) : sg s n * sg t m = sg (s != t) (n * m) := by
  cases s <;> cases t <;> simp [sg, Int.natCast_mul, Int.neg_mul, Int.mul_neg]
theorem mk_mul (s t : Bool) (n m d e : Nat) : mkRat (sg s n) d * mkRat (sg t m) e = mkRat (sg (s != t) (n * m)) (d * e) := by
  rw [Rat.mkRat_mul_mkRat, sg_mul]
/-- The sign, as a number. -/
def sgnI (z : Int) : Int := if z = 0 then 0 else if z < 0 then -1 else 1
def sgnQ (q : Rat) : Int := sgnI q.num
def zeroR : List AV := [.bool false, .ints .u64 [], .ints .u64 []]
def raNormalF (x : List Int) : Option Bool := gu (x = can (val x) ∧ val x < Lim) true
def raCheckF (a : List AV) : Option Int := gu (isR a ∧ qsz (qOf a) ≤ 262144) 0
def raIntF (v : Int) : Option (List AV) := gu (I64 v) (ratL (v : Rat))
def raTurnedF (a : List AV) : Option (List AV) := gu (isR a ∧ qsz (qOf a) ≤ 262144) (ratL (-(qOf a)))
def raLowestF (t : Bool × List Int × List Int) : Option (List AV) := gu (V t.2.1 ∧ V t.2.2 ∧ val t.2.2 ≠ 0 ∧ val t.2.1 < Lim) (ratL (mkRat (sg t.1 (val t.2.1)) (val t.2.2)))
def raNewF (t : Bool × List Int × List Int) : Option (List AV × Int) := gu (V t.2.1 ∧ V t.2.2 ∧ val t.2.1 < Lim ∧ val t.2.2 < Lim ∧ val t.2.2 ≠ 0) (ratL (mkRat (sg t.1 (val t.2.1)) (val t.2.2)), 0)
def raFitsF (t : List Int × Int) : Option (List Int) := gu (t.2 = 0) t.1
def raMulnF (t : List Int × List Int) : Option (List Int) := gu (V t.1 ∧ V t.2 ∧ val t.1 * val t.2 < Lim) (can (val t.1 * val t.2))
def nz1F (w : Int) : Option Bool := gu True (decide (w ≠ 0))
def nzI : List Int → Nat → Int
  | [], _ => -1
  | x :: xs, i => if x ≠ 0 then (i : Int) else nzI xs (i + 1)
def idxF (t : List Int × AV) : Option Int := gu (t.2 = .fn 57 ∧ t.1.length ≤ 17592186044416) (nzI t.1 0)
def anyfF (t : List Int × AV) : Option Bool := gu (t.2 = .fn 57 ∧ W64 t.1 ∧ t.1.length ≤ 17592186044416) (decide (val t.1 ≠ 0))
def raSignF (a : List AV) : Option Int := gu (isR a ∧ qsz (qOf a) ≤ 262144) (sgnQ (qOf a))
def okP2 (a b : List AV) : Prop := isR a ∧ isR b ∧ qsz (qOf a) + qsz (qOf b) ≤ 262000
def raAdd1F (t : List AV × List AV) : Option (List AV × List AV × List AV) := gu (okP2 t.1 t.2) (t.1, t.2, ratL (qOf t.1 + qOf t.2))
def raMul1F (t : List AV × List AV) : Option (List AV × List AV × List AV) := gu (okP2 t.1 t.2) (t.1, t.2, ratL (qOf t.1 * qOf t.2))
def raCmp1F (t : List AV × List AV × List AV) : Option (List AV × List AV × List AV × List AV) := gu (okP2 t.1 t.2.1) (t.1, t.2.1, [.int .i64 (sgnQ (qOf t.1 - qOf t.2.1))], zeroR)
def raRecAddF (t : List AV × List AV × List AV × List AV) : Option (List AV × List AV × List AV × Int) := gu (okP2 t.1 t.2.1 ∧ okP2 t.2.2.1 t.2.2.2) (t.2.2.1, t.2.2.2, ratL (qOf t.2.2.1 + qOf t.2.2.2), 0)
def raRecMulF (t : List AV × List AV × List AV × List AV) : Option (List AV × List AV × List AV × Int) := gu (okP2 t.1 t.2.1 ∧ okP2 t.2.2.1 t.2.2.2) (t.2.2.1, t.2.2.2, ratL (qOf t.2.2.1 * qOf t.2.2.2), 0)
def raRecCmpF (t : List AV × List AV × List AV × List AV × List AV) : Option (List AV × List AV × List AV × List AV × Int) := gu (okP2 t.1 t.2.1 ∧ okP2 t.2.2.1 t.2.2.2.1) (t.2.2.1, t.2.2.2.1, [.int .i64 (sgnQ (qOf t.2.2.1 - qOf t.2.2.2.1))], zeroR, 0)
def raAddF (t : List AV × List AV) : Option (List AV × Int) := gu (okP2 t.1 t.2) (ratL (qOf t.1 + qOf t.2), 0)
def raSubF (t : List AV × List AV) : Option (List AV × Int) := gu (okP2 t.1 t.2) (ratL (qOf t.1 - qOf t.2), 0)
def raMulF (t : List AV × List AV) : Option (List AV × Int) := gu (okP2 t.1 t.2) (ratL (qOf t.1 * qOf t.2), 0)
def raCmpF (t : List AV × List AV) : Option (Int × Int) := gu (okP2 t.1 t.2) (sgnQ (qOf t.1 - qOf t.2), 0)
def ee (b : Int) : Int := b / 4503599627370496 % 2048
def ff (b : Int) : Int := b % 4503599627370496
def fldF (b : Int) : Option (Int × Int) := gu (Wd b) (ee b, ff b)
def clsF (b : Int) : Option Int := gu (Wd b) (if ee b = 0 then (if ff b = 0 then 0 else 1) else if ee b = 2047 then (if ff b = 0 then 3 else 4) else 2)
def mt (b : Int) : Nat := (if ee b = 0 then ff b else 4503599627370496 + ff b).toNat
def ex (b : Int) : Int := if ee b = 0 then -1074 else ee b - 1075
def ng (b : Int) : Bool := decide (9223372036854775808 ≤ b)
def splF (b : Int) : Option (Bool × Int × Int × Int) := gu (Wd b) (if ee b = 2047 then (false, 0, 0, 60) else (ng b, (mt b : Int), ex b, 0))
/-- A pattern's number. -/
def fv (b : Int) : Rat := mkRat (sg (ng b) (mt b * 2 ^ (ex b).toNat)) (2 ^ (-(ex b)).toNat)
def nValF (b : Int) : Option (List AV × Int) := gu (Wd b) (if ee b = 2047 then (zeroR, 60) else (ratL (fv b), 0))
/-- A place. -/
def plL (x y : Rat) : List AV := ratL x ++ ratL y
def plX (l : List AV) : Rat := qOf (l.take 3)
def plY (l : List AV) : Rat := qOf (l.drop 3)
def isPl (l : List AV) : Prop := l = plL (plX l) (plY l)
def ratE : ETy := .st [.bool, .sl (.int .u64), .sl (.int .u64)]
def fq (f : AV) : Rat := qOf f.flds
def prodQ (fs : List AV) : Rat := fs.foldl (fun x f => x * fq f) 1
def prodZ (fs : List AV) : Nat := fs.foldl (fun n f => n + qsz (fq f)) 1
def pM (p : AV) : Bool := (aget p.flds 0).toBool
def pF (p : AV) : List AV := (aget p.flds 1).asList
def sumQ (ps : List AV) : Rat := ps.foldl (fun t p => if pM p then t - prodQ (pF p) else t + prodQ (pF p)) 0
def sumZ (ps : List AV) : Nat := ps.foldl (fun n p => n + prodZ (pF p) + 1) 1
def okS (ps : List AV) : Prop := ps.length ≤ 1000 ∧ sumZ ps ≤ 130000 ∧ ∀ p ∈ ps, (pF p).length ≤ 1000 ∧ ∀ f ∈ pF p, f.flds = ratL (fq f)
def pdPlusF (fs : List AV) : Option (List AV) := gu True [.bool false, .list ratE fs]
def pdMinusF (fs : List AV) : Option (List AV) := gu True [.bool true, .list ratE fs]
def pdSumF (ps : List AV) : Option (List AV) := gu (okS ps) (ratL (sumQ ps))
/-- A point's patterns. -/
def px (p : List AV) : Int := (aget p 0).toInt
def py (p : List AV) : Int := (aget p 1).toInt
def isPt (p : List AV) : Prop := Wd (px p) ∧ Wd (py p)
/-- Numbers' patterns. -/
def fin (p : List AV) : Bool := decide (ee (px p) ≠ 2047 ∧ ee (py p) ≠ 2047)
def plOf (p : List AV) : AV := .agg (plL (fv (px p)) (fv (py p)))
def pdPlacesF (l : List AV) : Option (List AV × Bool) := gu (l.length ≤ 1000 ∧ ∀ p ∈ l, isPt p.flds) (if l.all (fun p => fin p.flds) then (l.map (fun p => plOf p.flds), true) else ([], false))
def pdLessF (t : List AV × List AV) : Option (List AV) := gu (isPl t.1 ∧ isPl t.2 ∧ qsz (plX t.1) + qsz (plX t.2) ≤ 262000 ∧ qsz (plY t.1) + qsz (plY t.2) ≤ 262000) (plL (plX t.1 - plX t.2) (plY t.1 - plY t.2))
def sqQ (x y : Rat) : Rat := x * x + y * y
def pdSquareF (a : List AV) : Option (List AV) := gu (isPl a ∧ qsz (plX a) ≤ 10000 ∧ qsz (plY a) ≤ 10000) (ratL (sqQ (plX a) (plY a)))
def arQ (ax ay bx bY cx cy : Rat) : Rat := (bx - ax) * (cy - ay) - (bY - ay) * (cx - ax)
def small (a : List AV) : Prop := isPl a ∧ qsz (plX a) ≤ 2200 ∧ qsz (plY a) ≤ 2200
def pdAreaF (t : List AV × List AV × List AV) : Option (List AV) := gu (small t.1 ∧ small t.2.1 ∧ small t.2.2) (ratL (arQ (plX t.1) (plY t.1) (plX t.2.1) (plY t.2.1) (plX t.2.2) (plY t.2.2)))
def pdCompareF (t : List AV × List AV) : Option Int := gu (okP2 t.1 t.2) (sgnQ (qOf t.1 - qOf t.2))
/-- By x, then y. -/
def orQ (ax ay bx bY : Rat) : Int := if sgnQ (ax - bx) ≠ 0 then sgnQ (ax - bx) else sgnQ (ay - bY)
def pdOrderF (t : List AV × List AV) : Option Int := gu (small t.1 ∧ small t.2) (orQ (plX t.1) (plY t.1) (plX t.2) (plY t.2))
def X (p : List AV) : Rat := fv (px p)
def Y (p : List AV) : Rat := fv (py p)
def isP3 (a b c : List AV) : Prop := isPt a ∧ isPt b ∧ isPt c
def isP4 (a b c d : List AV) : Prop := isPt a ∧ isPt b ∧ isPt c ∧ isPt d
def arP (a b c : List AV) : Rat := arQ (X a) (Y a) (X b) (Y b) (X c) (Y c)
def pdOrientF (t : List AV × List AV × List AV) : Option (Int × Int) := gu (isP3 t.1 t.2.1 t.2.2) (if fin t.1 && fin t.2.1 && fin t.2.2 then (sgnQ (arP t.1 t.2.1 t.2.2), 0) else (0, 220))
/-- The sum for a circle, by differences. -/
def ciQ (px py qx qy rx ry : Rat) : Rat := px * (qy * sqQ rx ry - ry * sqQ qx qy) - py * (qx * sqQ rx ry - rx * sqQ qx qy) + sqQ px py * (qx * ry - rx * qy)
def ciP (a b c d : List AV) : Rat := ciQ (X a - X d) (Y a - Y d) (X b - X d) (Y b - Y d) (X c - X d) (Y c - Y d)
def pdInCircleF (t : List AV × List AV × List AV × List AV) : Option (Int × Int) := gu (isP4 t.1 t.2.1 t.2.2.1 t.2.2.2) (if fin t.1 && fin t.2.1 && fin t.2.2.1 && fin t.2.2.2 then (sgnQ (ciP t.1 t.2.1 t.2.2.1 t.2.2.2), 0) else (0, 220))
def orP (a b : List AV) : Int := orQ (X a) (Y a) (X b) (Y b)
def btP (a b p : List AV) : Bool := decide (sgnQ (arP a b p) = 0 ∧ (orP a p ≤ 0 ∧ orP p b ≤ 0 ∨ orP a p ≥ 0 ∧ orP p b ≥ 0))
def pdBetweenF (t : List AV × List AV × List AV) : Option (Bool × Int) := gu (isP3 t.1 t.2.1 t.2.2) (if fin t.1 && fin t.2.1 && fin t.2.2 then (btP t.1 t.2.1 t.2.2, 0) else (false, 220))
def dsP (a b : List AV) : Rat := sqQ (X a - X b) (Y a - Y b)
def pdNearerF (t : List AV × List AV × List AV × List AV) : Option (Int × Int) := gu (isP4 t.1 t.2.1 t.2.2.1 t.2.2.2) (if fin t.1 && fin t.2.1 && fin t.2.2.1 && fin t.2.2.2 then (sgnQ (dsP t.1 t.2.1 - dsP t.2.2.1 t.2.2.2), 0) else (0, 220))
def pdOrdF (t : List AV × List AV) : Option (Int × Int) := gu (isPt t.1 ∧ isPt t.2) (if fin t.1 && fin t.2 then (orP t.1 t.2, 0) else (0, 220))
def pdArea2F (t : List AV × List AV × List AV) : Option (List AV × Int) := gu (isP3 t.1 t.2.1 t.2.2) (if fin t.1 && fin t.2.1 && fin t.2.2 then (ratL (arP t.1 t.2.1 t.2.2), 0) else (zeroR, 220))
def num22F (n : Int) : Option Int := gu (I64 n) n
def fin22F (l : List AV) : Option Bool := gu (l.length ≤ 17592186044416 ∧ ∀ p ∈ l, isPt p.flds) (l.all fun p => fin p.flds)
def W8 (q : List AV) : Prop := ∀ i, i < 8 → Wd (aget q i).toInt
/-- The pattern of a small whole number times a power of two. -/
def joinV (neg : Bool) (m : Nat) (e : Int) : Int := (if neg then 9223372036854775808 else 0) + (if m = 0 then 0 else (e - 53 + blen m + 1074) * 4503599627370496 + (m * 2 ^ (53 - blen m) : Nat))
def joinF (t : Bool × Int × Int) : Option (Int × Int) := gu (0 ≤ t.2.1 ∧ t.2.1 ≤ 4095 ∧ -900 ≤ t.2.2 ∧ t.2.2 ≤ 900) (joinV t.1 t.2.1.toNat t.2.2, 0)
end
end Go.RX.S
