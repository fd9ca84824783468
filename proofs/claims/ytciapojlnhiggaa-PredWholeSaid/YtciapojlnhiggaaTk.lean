/- What functions compute, printed. -/
import Derived.Test.YtciapojlnhiggaaTj
set_option linter.unusedVariables false
set_option linter.unusedSimpArgs false
namespace Go.RX.S
open Go Go.RX Go.Proofs
noncomputable section
/-! ### plumb/pred.plus -/
def pdPlus_h : Nat → Option Head := hintOf []
def pdPlus_b0  (a : List AV) : Option (List AV) :=
  some [AV.bool false, AV.list (ETy.st [ETy.bool, ETy.sl (ETy.int .u64), ETy.sl (ETy.int .u64)]) a]
noncomputable def pdPlus_E : Env (dens [.st [.bool, .sl (.st [.bool, .sl (.int .u64), .sl (.int .u64)])]]) := envR S.tab [] Try.f34 [.cell 2 77] [.st [.bool, .sl (.st [.bool, .sl (.int .u64), .sl (.int .u64)])]]
theorem pdPlus_s0 (r : Rec (dens [.st [.bool, .sl (.st [.bool, .sl (.int .u64), .sl (.int .u64)])]])) (a : List AV) : evT pdPlus_E pdPlus_h r 3000 false [.code (bodyOf Try.f34)] (T0 0 [.list (.st [.bool, .sl (.int .u64), .sl (.int .u64)]) a]) [] = pdPlus_b0  a := by kernel_rfl
theorem pdPlus_ev (k : Nat) (a : List AV) : evM pdPlus_E pdPlus_h 3000 k [.code (bodyOf Try.f34)] (T0 0 [.list (.st [.bool, .sl (.int .u64), .sl (.int .u64)]) a]) [] = pdPlus_b0  a := by
  exact pdPlus_s0 _ a

/-! ### plumb/pred.minus -/
def pdMinus_h : Nat → Option Head := hintOf []
def pdMinus_b0  (a : List AV) : Option (List AV) :=
  some [AV.bool true, AV.list (ETy.st [ETy.bool, ETy.sl (ETy.int .u64), ETy.sl (ETy.int .u64)]) a]
noncomputable def pdMinus_E : Env (dens [.st [.bool, .sl (.st [.bool, .sl (.int .u64), .sl (.int .u64)])]]) := envR S.tab [] Try.f35 [.cell 2 77] [.st [.bool, .sl (.st [.bool, .sl (.int .u64), .sl (.int .u64)])]]
theorem pdMinus_s0 (r : Rec (dens [.st [.bool, .sl (.st [.bool, .sl (.int .u64), .sl (.int .u64)])]])) (a : List AV) : evT pdMinus_E pdMinus_h r 3000 false [.code (bodyOf Try.f35)] (T0 0 [.list (.st [.bool, .sl (.int .u64), .sl (.int .u64)]) a]) [] = pdMinus_b0  a := by kernel_rfl
theorem pdMinus_ev (k : Nat) (a : List AV) : evM pdMinus_E pdMinus_h 3000 k [.code (bodyOf Try.f35)] (T0 0 [.list (.st [.bool, .sl (.int .u64), .sl (.int .u64)]) a]) [] = pdMinus_b0  a := by
  exact pdMinus_s0 _ a

/-! ### plumb/pred.sum -/
def pdSum_h : Nat → Option Head := hintOf [(6, ⟨[(2, .same), (3, .same), (10, .same), (11, .same), (12, .same)], 2⟩), (14, ⟨[(2, .same), (3, .same), (5, .same), (6, .same), (10, .same), (11, .same), (12, .same), (18, .same), (19, .same), (20, .same)], 4⟩)]
def pdSum_b0 (l6 : List AV → Int → Int → List AV → List AV → Option (List AV)) (l14 : List AV → Int → Int → List AV → Int → Int → List AV → List AV → List AV → List AV → Option (List AV)) (a : List AV) : Option (List AV) :=
  Option.bind (raIntF (0 : Int)) fun t =>
  l6 a (↑(List.length a) : Int) (0 : Int) [AV.agg [AV.bool false, AV.ints .u64 [], AV.ints .u64 []]]
    [AV.agg [AV.bool (AV.toBool (aget t 0)), AV.ints .u64 (AV.asInts (aget t 1)), AV.ints .u64 (AV.asInts (aget t 2))]]
def pdSum_b6 (l6 : List AV → Int → Int → List AV → List AV → Option (List AV)) (l14 : List AV → Int → Int → List AV → Int → Int → List AV → List AV → List AV → List AV → Option (List AV)) (t10 : List AV) (t11 : Int) (t12 : Int) (h0 : List AV) (h1 : List AV) : Option (List AV) :=
  bif decide (t12 < t11) then
  bif inRange t12 (List.length t10) then
    Option.bind (raIntF (1 : Int)) fun t =>
      l14 t10 t11 t12 (AV.asList (aget (AV.flds (aget t10 (Int.toNat t12))) 1)) (↑(List.length (AV.asList (aget (AV.flds (aget t10 (Int.toNat t12))) 1))) : Int) (0 : Int) h0 h1
        [AV.agg
            [AV.bool (AV.toBool (aget (AV.flds (aget t10 (Int.toNat t12))) 0)),
              AV.list (ETy.st [ETy.bool, ETy.sl (ETy.int .u64), ETy.sl (ETy.int .u64)]) (AV.asList (aget (AV.flds (aget t10 (Int.toNat t12))) 1))]]
        [AV.agg [AV.bool (AV.toBool (aget t 0)), AV.ints .u64 (AV.asInts (aget t 1)), AV.ints .u64 (AV.asInts (aget t 2))]]
  else none
else
  some
    [AV.bool
        (AV.toBool
          (aget
            (AV.flds
              (aget
                (List.set h0 0
                  (AV.agg
                    [AV.bool (AV.toBool (aget (AV.flds (aget h1 0)) 0)), AV.ints .u64 (AV.asInts (aget (AV.flds (aget h1 0)) 1)),
                      AV.ints .u64 (AV.asInts (aget (AV.flds (aget h1 0)) 2))]))
                0))
            0)),
      AV.ints .u64
        (AV.asInts
          (aget
            (AV.flds
              (aget
                (List.set h0 0
                  (AV.agg
                    [AV.bool (AV.toBool (aget (AV.flds (aget h1 0)) 0)), AV.ints .u64 (AV.asInts (aget (AV.flds (aget h1 0)) 1)),
                      AV.ints .u64 (AV.asInts (aget (AV.flds (aget h1 0)) 2))]))
                0))
            1)),
      AV.ints .u64
        (AV.asInts
          (aget
            (AV.flds
              (aget
                (List.set h0 0
                  (AV.agg
                    [AV.bool (AV.toBool (aget (AV.flds (aget h1 0)) 0)), AV.ints .u64 (AV.asInts (aget (AV.flds (aget h1 0)) 1)),
                      AV.ints .u64 (AV.asInts (aget (AV.flds (aget h1 0)) 2))]))
                0))
            2))]
def pdSum_b14 (l6 : List AV → Int → Int → List AV → List AV → Option (List AV)) (l14 : List AV → Int → Int → List AV → Int → Int → List AV → List AV → List AV → List AV → Option (List AV)) (t10 : List AV) (t11 : Int) (t12 : Int) (t18 : List AV) (t19 : Int) (t20 : Int) (h0 : List AV) (h1 : List AV) (h2 : List AV) (h3 : List AV) : Option (List AV) :=
  bif decide (t20 < t19) then
  bif inRange t20 (List.length t18) then
    Option.bind
      (raMulF
        ([AV.bool (AV.toBool (aget (AV.flds (aget h3 0)) 0)), AV.ints .u64 (AV.asInts (aget (AV.flds (aget h3 0)) 1)),
            AV.ints .u64 (AV.asInts (aget (AV.flds (aget h3 0)) 2))],
          [AV.bool (AV.toBool (aget (AV.flds (aget t18 (Int.toNat t20))) 0)), AV.ints .u64 (AV.asInts (aget (AV.flds (aget t18 (Int.toNat t20))) 1)),
            AV.ints .u64 (AV.asInts (aget (AV.flds (aget t18 (Int.toNat t20))) 2))]))
      fun t =>
      l14 t10 t11 t12 t18 t19 (addI .i64 t20 (1 : Int)) h0 h1 h2
        (List.set h3 0 (AV.agg [AV.bool (AV.toBool (aget t.1 0)), AV.ints .u64 (AV.asInts (aget t.1 1)), AV.ints .u64 (AV.asInts (aget t.1 2))]))
  else none
else
  bif AV.toBool (aget (AV.flds (aget h2 0)) 0) then
    Option.bind
      (raSubF
        ([AV.bool (AV.toBool (aget (AV.flds (aget h1 0)) 0)), AV.ints .u64 (AV.asInts (aget (AV.flds (aget h1 0)) 1)),
            AV.ints .u64 (AV.asInts (aget (AV.flds (aget h1 0)) 2))],
          [AV.bool (AV.toBool (aget (AV.flds (aget h3 0)) 0)), AV.ints .u64 (AV.asInts (aget (AV.flds (aget h3 0)) 1)),
            AV.ints .u64 (AV.asInts (aget (AV.flds (aget h3 0)) 2))]))
      fun t =>
      l6 t10 t11 (addI .i64 t12 (1 : Int)) h0
        (List.set h1 0 (AV.agg [AV.bool (AV.toBool (aget t.1 0)), AV.ints .u64 (AV.asInts (aget t.1 1)), AV.ints .u64 (AV.asInts (aget t.1 2))]))
  else
    Option.bind
      (raAddF
        ([AV.bool (AV.toBool (aget (AV.flds (aget h1 0)) 0)), AV.ints .u64 (AV.asInts (aget (AV.flds (aget h1 0)) 1)),
            AV.ints .u64 (AV.asInts (aget (AV.flds (aget h1 0)) 2))],
          [AV.bool (AV.toBool (aget (AV.flds (aget h3 0)) 0)), AV.ints .u64 (AV.asInts (aget (AV.flds (aget h3 0)) 1)),
            AV.ints .u64 (AV.asInts (aget (AV.flds (aget h3 0)) 2))]))
      fun t =>
      l6 t10 t11 (addI .i64 t12 (1 : Int)) h0
        (List.set h1 0 (AV.agg [AV.bool (AV.toBool (aget t.1 0)), AV.ints .u64 (AV.asInts (aget t.1 1)), AV.ints .u64 (AV.asInts (aget t.1 2))]))
mutual
def pdSum_L6 : Nat → (List AV) → Int → Int → (List AV) → (List AV) → Option (List AV)
  | 0, _, _, _, _, _ => none
  | k + 1, t10, t11, t12, h0, h1 => pdSum_b6 (pdSum_L6 k) (pdSum_L14 k) t10 t11 t12 h0 h1
def pdSum_L14 : Nat → (List AV) → Int → Int → (List AV) → Int → Int → (List AV) → (List AV) → (List AV) → (List AV) → Option (List AV)
  | 0, _, _, _, _, _, _, _, _, _, _ => none
  | k + 1, t10, t11, t12, t18, t19, t20, h0, h1, h2, h3 => pdSum_b14 (pdSum_L6 k) (pdSum_L14 k) t10 t11 t12 t18 t19 t20 h0 h1 h2 h3
end
noncomputable def pdSum_E : Env (dens [.st [.bool, .sl (.int .u64), .sl (.int .u64)]]) := envR S.tab [(50, mkF [.int .i64] [.st [.bool, .sl (.int .u64), .sl (.int .u64)]] raIntF), (51, mkF [.st [.bool, .sl (.int .u64), .sl (.int .u64)], .st [.bool, .sl (.int .u64), .sl (.int .u64)]] [.st [.bool, .sl (.int .u64), .sl (.int .u64)], .int .i64] raMulF), (49, mkF [.st [.bool, .sl (.int .u64), .sl (.int .u64)], .st [.bool, .sl (.int .u64), .sl (.int .u64)]] [.st [.bool, .sl (.int .u64), .sl (.int .u64)], .int .i64] raSubF), (52, mkF [.st [.bool, .sl (.int .u64), .sl (.int .u64)], .st [.bool, .sl (.int .u64), .sl (.int .u64)]] [.st [.bool, .sl (.int .u64), .sl (.int .u64)], .int .i64] raAddF)] Try.f33 [.cell 2 36] [.st [.bool, .sl (.int .u64), .sl (.int .u64)]]
theorem pdSum_s0 (r : Rec (dens [.st [.bool, .sl (.int .u64), .sl (.int .u64)]])) (a : List AV) : evT pdSum_E pdSum_h r 3000 false [.code (bodyOf Try.f33)] (T0 0 [.list (.st [.bool, .sl (.st [.bool, .sl (.int .u64), .sl (.int .u64)])]) a]) [] = pdSum_b0 (fun t10 t11 t12 h0 h1 => r (todoOf 6 (bodyOf Try.f33)) [(2, AV.ptr 0 3 0 0), (3, AV.ptr 1 3 0 0),
  (10, AV.list (ETy.st [ETy.bool, ETy.sl (ETy.st [ETy.bool, ETy.sl (ETy.int .u64), ETy.sl (ETy.int .u64)])]) t10), (11, AV.int .i64 t11),
  (12, AV.int .i64 t12)] [Blk.A 36 (ETy.st [ETy.bool, ETy.sl (ETy.int .u64), ETy.sl (ETy.int .u64)]) h0,
  Blk.A 36 (ETy.st [ETy.bool, ETy.sl (ETy.int .u64), ETy.sl (ETy.int .u64)]) h1]) (fun t10 t11 t12 t18 t19 t20 h0 h1 h2 h3 => r (todoOf 14 (bodyOf Try.f33)) [(2, AV.ptr 0 3 0 0), (3, AV.ptr 1 3 0 0),
  (5, AV.ptr (Nat.succ 1) 2 0 0), (6, AV.ptr (Nat.succ (Nat.succ 1)) 3 0 0),
  (10, AV.list (ETy.st [ETy.bool, ETy.sl (ETy.st [ETy.bool, ETy.sl (ETy.int .u64), ETy.sl (ETy.int .u64)])]) t10), (11, AV.int .i64 t11),
  (12, AV.int .i64 t12), (18, AV.list (ETy.st [ETy.bool, ETy.sl (ETy.int .u64), ETy.sl (ETy.int .u64)]) t18), (19, AV.int .i64 t19),
  (20, AV.int .i64 t20)] [Blk.A 36 (ETy.st [ETy.bool, ETy.sl (ETy.int .u64), ETy.sl (ETy.int .u64)]) h0,
  Blk.A 36 (ETy.st [ETy.bool, ETy.sl (ETy.int .u64), ETy.sl (ETy.int .u64)]) h1,
  Blk.A 77 (ETy.st [ETy.bool, ETy.sl (ETy.st [ETy.bool, ETy.sl (ETy.int .u64), ETy.sl (ETy.int .u64)])]) h2,
  Blk.A 36 (ETy.st [ETy.bool, ETy.sl (ETy.int .u64), ETy.sl (ETy.int .u64)]) h3]) a := by kernel_rfl
theorem pdSum_s6 (r : Rec (dens [.st [.bool, .sl (.int .u64), .sl (.int .u64)]])) (t10 : List AV) (t11 : Int) (t12 : Int) (h0 : List AV) (h1 : List AV) : evT pdSum_E pdSum_h r 3000 true (todoOf 6 (bodyOf Try.f33)) [(2, AV.ptr 0 3 0 0), (3, AV.ptr 1 3 0 0),
  (10, AV.list (ETy.st [ETy.bool, ETy.sl (ETy.st [ETy.bool, ETy.sl (ETy.int .u64), ETy.sl (ETy.int .u64)])]) t10), (11, AV.int .i64 t11),
  (12, AV.int .i64 t12)] [Blk.A 36 (ETy.st [ETy.bool, ETy.sl (ETy.int .u64), ETy.sl (ETy.int .u64)]) h0,
  Blk.A 36 (ETy.st [ETy.bool, ETy.sl (ETy.int .u64), ETy.sl (ETy.int .u64)]) h1] = pdSum_b6 (fun t10 t11 t12 h0 h1 => r (todoOf 6 (bodyOf Try.f33)) [(2, AV.ptr 0 3 0 0), (3, AV.ptr 1 3 0 0),
  (10, AV.list (ETy.st [ETy.bool, ETy.sl (ETy.st [ETy.bool, ETy.sl (ETy.int .u64), ETy.sl (ETy.int .u64)])]) t10), (11, AV.int .i64 t11),
  (12, AV.int .i64 t12)] [Blk.A 36 (ETy.st [ETy.bool, ETy.sl (ETy.int .u64), ETy.sl (ETy.int .u64)]) h0,
  Blk.A 36 (ETy.st [ETy.bool, ETy.sl (ETy.int .u64), ETy.sl (ETy.int .u64)]) h1]) (fun t10 t11 t12 t18 t19 t20 h0 h1 h2 h3 => r (todoOf 14 (bodyOf Try.f33)) [(2, AV.ptr 0 3 0 0), (3, AV.ptr 1 3 0 0),
  (5, AV.ptr (Nat.succ 1) 2 0 0), (6, AV.ptr (Nat.succ (Nat.succ 1)) 3 0 0),
  (10, AV.list (ETy.st [ETy.bool, ETy.sl (ETy.st [ETy.bool, ETy.sl (ETy.int .u64), ETy.sl (ETy.int .u64)])]) t10), (11, AV.int .i64 t11),
  (12, AV.int .i64 t12), (18, AV.list (ETy.st [ETy.bool, ETy.sl (ETy.int .u64), ETy.sl (ETy.int .u64)]) t18), (19, AV.int .i64 t19),
  (20, AV.int .i64 t20)] [Blk.A 36 (ETy.st [ETy.bool, ETy.sl (ETy.int .u64), ETy.sl (ETy.int .u64)]) h0,
  Blk.A 36 (ETy.st [ETy.bool, ETy.sl (ETy.int .u64), ETy.sl (ETy.int .u64)]) h1,
  Blk.A 77 (ETy.st [ETy.bool, ETy.sl (ETy.st [ETy.bool, ETy.sl (ETy.int .u64), ETy.sl (ETy.int .u64)])]) h2,
  Blk.A 36 (ETy.st [ETy.bool, ETy.sl (ETy.int .u64), ETy.sl (ETy.int .u64)]) h3]) t10 t11 t12 h0 h1 := by kernel_rfl
theorem pdSum_s14 (r : Rec (dens [.st [.bool, .sl (.int .u64), .sl (.int .u64)]])) (t10 : List AV) (t11 : Int) (t12 : Int) (t18 : List AV) (t19 : Int) (t20 : Int) (h0 : List AV) (h1 : List AV) (h2 : List AV) (h3 : List AV) : evT pdSum_E pdSum_h r 3000 true (todoOf 14 (bodyOf Try.f33)) [(2, AV.ptr 0 3 0 0), (3, AV.ptr 1 3 0 0),
  (5, AV.ptr (Nat.succ 1) 2 0 0), (6, AV.ptr (Nat.succ (Nat.succ 1)) 3 0 0),
  (10, AV.list (ETy.st [ETy.bool, ETy.sl (ETy.st [ETy.bool, ETy.sl (ETy.int .u64), ETy.sl (ETy.int .u64)])]) t10), (11, AV.int .i64 t11),
  (12, AV.int .i64 t12), (18, AV.list (ETy.st [ETy.bool, ETy.sl (ETy.int .u64), ETy.sl (ETy.int .u64)]) t18), (19, AV.int .i64 t19),
  (20, AV.int .i64 t20)] [Blk.A 36 (ETy.st [ETy.bool, ETy.sl (ETy.int .u64), ETy.sl (ETy.int .u64)]) h0,
  Blk.A 36 (ETy.st [ETy.bool, ETy.sl (ETy.int .u64), ETy.sl (ETy.int .u64)]) h1,
  Blk.A 77 (ETy.st [ETy.bool, ETy.sl (ETy.st [ETy.bool, ETy.sl (ETy.int .u64), ETy.sl (ETy.int .u64)])]) h2,
  Blk.A 36 (ETy.st [ETy.bool, ETy.sl (ETy.int .u64), ETy.sl (ETy.int .u64)]) h3] = pdSum_b14 (fun t10 t11 t12 h0 h1 => r (todoOf 6 (bodyOf Try.f33)) [(2, AV.ptr 0 3 0 0), (3, AV.ptr 1 3 0 0),
  (10, AV.list (ETy.st [ETy.bool, ETy.sl (ETy.st [ETy.bool, ETy.sl (ETy.int .u64), ETy.sl (ETy.int .u64)])]) t10), (11, AV.int .i64 t11),
  (12, AV.int .i64 t12)] [Blk.A 36 (ETy.st [ETy.bool, ETy.sl (ETy.int .u64), ETy.sl (ETy.int .u64)]) h0,
  Blk.A 36 (ETy.st [ETy.bool, ETy.sl (ETy.int .u64), ETy.sl (ETy.int .u64)]) h1]) (fun t10 t11 t12 t18 t19 t20 h0 h1 h2 h3 => r (todoOf 14 (bodyOf Try.f33)) [(2, AV.ptr 0 3 0 0), (3, AV.ptr 1 3 0 0),
  (5, AV.ptr (Nat.succ 1) 2 0 0), (6, AV.ptr (Nat.succ (Nat.succ 1)) 3 0 0),
  (10, AV.list (ETy.st [ETy.bool, ETy.sl (ETy.st [ETy.bool, ETy.sl (ETy.int .u64), ETy.sl (ETy.int .u64)])]) t10), (11, AV.int .i64 t11),
  (12, AV.int .i64 t12), (18, AV.list (ETy.st [ETy.bool, ETy.sl (ETy.int .u64), ETy.sl (ETy.int .u64)]) t18), (19, AV.int .i64 t19),
  (20, AV.int .i64 t20)] [Blk.A 36 (ETy.st [ETy.bool, ETy.sl (ETy.int .u64), ETy.sl (ETy.int .u64)]) h0,
  Blk.A 36 (ETy.st [ETy.bool, ETy.sl (ETy.int .u64), ETy.sl (ETy.int .u64)]) h1,
  Blk.A 77 (ETy.st [ETy.bool, ETy.sl (ETy.st [ETy.bool, ETy.sl (ETy.int .u64), ETy.sl (ETy.int .u64)])]) h2,
  Blk.A 36 (ETy.st [ETy.bool, ETy.sl (ETy.int .u64), ETy.sl (ETy.int .u64)]) h3]) t10 t11 t12 t18 t19 t20 h0 h1 h2 h3 := by kernel_rfl
theorem pdSum_k : ∀ k, (∀ (t10 : List AV) (t11 : Int) (t12 : Int) (h0 : List AV) (h1 : List AV), evK pdSum_E pdSum_h 3000 k (todoOf 6 (bodyOf Try.f33)) [(2, AV.ptr 0 3 0 0), (3, AV.ptr 1 3 0 0),
  (10, AV.list (ETy.st [ETy.bool, ETy.sl (ETy.st [ETy.bool, ETy.sl (ETy.int .u64), ETy.sl (ETy.int .u64)])]) t10), (11, AV.int .i64 t11),
  (12, AV.int .i64 t12)] [Blk.A 36 (ETy.st [ETy.bool, ETy.sl (ETy.int .u64), ETy.sl (ETy.int .u64)]) h0,
  Blk.A 36 (ETy.st [ETy.bool, ETy.sl (ETy.int .u64), ETy.sl (ETy.int .u64)]) h1] = pdSum_L6 k t10 t11 t12 h0 h1) ∧ (∀ (t10 : List AV) (t11 : Int) (t12 : Int) (t18 : List AV) (t19 : Int) (t20 : Int) (h0 : List AV) (h1 : List AV) (h2 : List AV) (h3 : List AV), evK pdSum_E pdSum_h 3000 k (todoOf 14 (bodyOf Try.f33)) [(2, AV.ptr 0 3 0 0), (3, AV.ptr 1 3 0 0),
  (5, AV.ptr (Nat.succ 1) 2 0 0), (6, AV.ptr (Nat.succ (Nat.succ 1)) 3 0 0),
  (10, AV.list (ETy.st [ETy.bool, ETy.sl (ETy.st [ETy.bool, ETy.sl (ETy.int .u64), ETy.sl (ETy.int .u64)])]) t10), (11, AV.int .i64 t11),
  (12, AV.int .i64 t12), (18, AV.list (ETy.st [ETy.bool, ETy.sl (ETy.int .u64), ETy.sl (ETy.int .u64)]) t18), (19, AV.int .i64 t19),
  (20, AV.int .i64 t20)] [Blk.A 36 (ETy.st [ETy.bool, ETy.sl (ETy.int .u64), ETy.sl (ETy.int .u64)]) h0,
  Blk.A 36 (ETy.st [ETy.bool, ETy.sl (ETy.int .u64), ETy.sl (ETy.int .u64)]) h1,
  Blk.A 77 (ETy.st [ETy.bool, ETy.sl (ETy.st [ETy.bool, ETy.sl (ETy.int .u64), ETy.sl (ETy.int .u64)])]) h2,
  Blk.A 36 (ETy.st [ETy.bool, ETy.sl (ETy.int .u64), ETy.sl (ETy.int .u64)]) h3] = pdSum_L14 k t10 t11 t12 t18 t19 t20 h0 h1 h2 h3)
  | 0 => by
    refine ⟨?_, ?_⟩ <;> intros <;> rfl
  | k + 1 => by
    have ih := pdSum_k k
    refine ⟨?_, ?_⟩ <;> intros
    · exact ((pdSum_s6 _ _ _ _ _ _).trans (by simp only [ih] <;> rfl))
    · exact ((pdSum_s14 _ _ _ _ _ _ _ _ _ _ _).trans (by simp only [ih] <;> rfl))
theorem pdSum_ev (k : Nat) (a : List AV) : evM pdSum_E pdSum_h 3000 k [.code (bodyOf Try.f33)] (T0 0 [.list (.st [.bool, .sl (.st [.bool, .sl (.int .u64), .sl (.int .u64)])]) a]) [] = pdSum_b0 (pdSum_L6 k) (pdSum_L14 k) a := by
  refine (pdSum_s0 _ a).trans ?_
  simp only [pdSum_k k] <;> rfl

/-! ### plumb/pred.places -/
def pdPlaces_h : Nat → Option Head := hintOf [(6, ⟨[(4, .same), (14, .same), (15, .same), (16, .same)], 1⟩)]
def pdPlaces_b0 (l6 : List AV → Int → Int → List AV → Option (List AV × Bool)) (a : List AV) : Option (List AV × Bool) :=
  bif bif decide ((0 : Int) ≤ (↑(List.length a) : Int)) then decide ((↑(List.length a) : Int) * (112 : Int) ≤ (281474976710656 : Int)) else false then
  l6 a (↑(List.length a) : Int) (0 : Int)
    (List.replicate (Int.toNat (↑(List.length a) : Int)) (AV.agg [AV.bool false, AV.ints .u64 [], AV.ints .u64 [], AV.bool false, AV.ints .u64 [], AV.ints .u64 []]))
else none
def pdPlaces_b6 (l6 : List AV → Int → Int → List AV → Option (List AV × Bool)) (t14 : List AV) (t15 : Int) (t16 : Int) (h0 : List AV) : Option (List AV × Bool) :=
  bif decide (t16 < t15) then
  bif inRange t16 (List.length t14) then
    Option.bind (nValF (AV.toInt (aget (AV.flds (aget t14 (Int.toNat t16))) 0))) fun t =>
      Option.bind (nValF (AV.toInt (aget (AV.flds (aget t14 (Int.toNat t16))) 1))) fun t_1 =>
        bif !decide (t.2 = (0 : Int)) then some ([], false)
        else
          bif !decide (t_1.2 = (0 : Int)) then some ([], false)
          else
            bif inRange t16 (List.length h0) then
              l6 t14 t15 (addI .i64 t16 (1 : Int))
                (List.set h0 (Int.toNat t16)
                  (AV.agg
                    [AV.bool (AV.toBool (aget t.1 0)), AV.ints .u64 (AV.asInts (aget t.1 1)), AV.ints .u64 (AV.asInts (aget t.1 2)),
                      AV.bool (AV.toBool (aget t_1.1 0)), AV.ints .u64 (AV.asInts (aget t_1.1 1)), AV.ints .u64 (AV.asInts (aget t_1.1 2))]))
            else none
  else none
else some (h0, true)
mutual
def pdPlaces_L6 : Nat → (List AV) → Int → Int → (List AV) → Option (List AV × Bool)
  | 0, _, _, _, _ => none
  | k + 1, t14, t15, t16, h0 => pdPlaces_b6 (pdPlaces_L6 k) t14 t15 t16 h0
end
noncomputable def pdPlaces_E : Env (dens [.sl (.st [.bool, .sl (.int .u64), .sl (.int .u64), .bool, .sl (.int .u64), .sl (.int .u64)]), .bool]) := envOf S.tab [(48, mkF [.int .u64] [.st [.bool, .sl (.int .u64), .sl (.int .u64)], .int .i64] nValF)] Try.f29 [2, 3] [.sl (.st [.bool, .sl (.int .u64), .sl (.int .u64), .bool, .sl (.int .u64), .sl (.int .u64)]), .bool]
theorem pdPlaces_s0 (r : Rec (dens [.sl (.st [.bool, .sl (.int .u64), .sl (.int .u64), .bool, .sl (.int .u64), .sl (.int .u64)]), .bool])) (a : List AV) : evT pdPlaces_E pdPlaces_h r 3000 false [.code (bodyOf Try.f29)] (T0 0 [.list (.st [.int .u64, .int .u64]) a]) [] = pdPlaces_b0 (fun t14 t15 t16 h0 => r (todoOf 6 (bodyOf Try.f29)) [(4, AV.vec 0 6), (14, AV.list (ETy.st [ETy.int .u64, ETy.int .u64]) t14), (15, AV.int .i64 t15), (16, AV.int .i64 t16)] [Blk.A 71 (ETy.st [ETy.bool, ETy.sl (ETy.int .u64), ETy.sl (ETy.int .u64), ETy.bool, ETy.sl (ETy.int .u64), ETy.sl (ETy.int .u64)]) h0]) a := by kernel_rfl
theorem pdPlaces_s6 (r : Rec (dens [.sl (.st [.bool, .sl (.int .u64), .sl (.int .u64), .bool, .sl (.int .u64), .sl (.int .u64)]), .bool])) (t14 : List AV) (t15 : Int) (t16 : Int) (h0 : List AV) : evT pdPlaces_E pdPlaces_h r 3000 true (todoOf 6 (bodyOf Try.f29)) [(4, AV.vec 0 6), (14, AV.list (ETy.st [ETy.int .u64, ETy.int .u64]) t14), (15, AV.int .i64 t15), (16, AV.int .i64 t16)] [Blk.A 71 (ETy.st [ETy.bool, ETy.sl (ETy.int .u64), ETy.sl (ETy.int .u64), ETy.bool, ETy.sl (ETy.int .u64), ETy.sl (ETy.int .u64)]) h0] = pdPlaces_b6 (fun t14 t15 t16 h0 => r (todoOf 6 (bodyOf Try.f29)) [(4, AV.vec 0 6), (14, AV.list (ETy.st [ETy.int .u64, ETy.int .u64]) t14), (15, AV.int .i64 t15), (16, AV.int .i64 t16)] [Blk.A 71 (ETy.st [ETy.bool, ETy.sl (ETy.int .u64), ETy.sl (ETy.int .u64), ETy.bool, ETy.sl (ETy.int .u64), ETy.sl (ETy.int .u64)]) h0]) t14 t15 t16 h0 := by kernel_rfl
theorem pdPlaces_k : ∀ k, (∀ (t14 : List AV) (t15 : Int) (t16 : Int) (h0 : List AV), evK pdPlaces_E pdPlaces_h 3000 k (todoOf 6 (bodyOf Try.f29)) [(4, AV.vec 0 6), (14, AV.list (ETy.st [ETy.int .u64, ETy.int .u64]) t14), (15, AV.int .i64 t15), (16, AV.int .i64 t16)] [Blk.A 71 (ETy.st [ETy.bool, ETy.sl (ETy.int .u64), ETy.sl (ETy.int .u64), ETy.bool, ETy.sl (ETy.int .u64), ETy.sl (ETy.int .u64)]) h0] = pdPlaces_L6 k t14 t15 t16 h0)
  | 0 => by
    refine ?_ <;> intros <;> rfl
  | k + 1 => by
    have ih := pdPlaces_k k
    refine ?_ <;> intros
    · exact ((pdPlaces_s6 _ _ _ _ _).trans (by simp only [ih] <;> rfl))
theorem pdPlaces_ev (k : Nat) (a : List AV) : evM pdPlaces_E pdPlaces_h 3000 k [.code (bodyOf Try.f29)] (T0 0 [.list (.st [.int .u64, .int .u64]) a]) [] = pdPlaces_b0 (pdPlaces_L6 k) a := by
  refine (pdPlaces_s0 _ a).trans ?_
  simp only [pdPlaces_k k] <;> rfl

/-! ### plumb/pred.less -/
def pdLess_h : Nat → Option Head := hintOf []
def pdLess_b0  (a : List AV) (b : List AV) : Option (List AV) :=
  Option.bind
  (raSubF
    ([AV.bool (AV.toBool (aget a 0)), AV.ints .u64 (AV.asInts (aget a 1)), AV.ints .u64 (AV.asInts (aget a 2))],
      [AV.bool (AV.toBool (aget b 0)), AV.ints .u64 (AV.asInts (aget b 1)), AV.ints .u64 (AV.asInts (aget b 2))]))
  fun t =>
  Option.bind
    (raSubF
      ([AV.bool (AV.toBool (aget a 3)), AV.ints .u64 (AV.asInts (aget a 4)), AV.ints .u64 (AV.asInts (aget a 5))],
        [AV.bool (AV.toBool (aget b 3)), AV.ints .u64 (AV.asInts (aget b 4)), AV.ints .u64 (AV.asInts (aget b 5))]))
    fun t_1 =>
    some
      [AV.bool (AV.toBool (aget t.1 0)), AV.ints .u64 (AV.asInts (aget t.1 1)), AV.ints .u64 (AV.asInts (aget t.1 2)),
        AV.bool (AV.toBool (aget t_1.1 0)), AV.ints .u64 (AV.asInts (aget t_1.1 1)), AV.ints .u64 (AV.asInts (aget t_1.1 2))]
noncomputable def pdLess_E : Env (dens [.st [.bool, .sl (.int .u64), .sl (.int .u64), .bool, .sl (.int .u64), .sl (.int .u64)]]) := envR S.tab [(49, mkF [.st [.bool, .sl (.int .u64), .sl (.int .u64)], .st [.bool, .sl (.int .u64), .sl (.int .u64)]] [.st [.bool, .sl (.int .u64), .sl (.int .u64)], .int .i64] raSubF)] Try.f31 [.cell 4 71] [.st [.bool, .sl (.int .u64), .sl (.int .u64), .bool, .sl (.int .u64), .sl (.int .u64)]]
theorem pdLess_s0 (r : Rec (dens [.st [.bool, .sl (.int .u64), .sl (.int .u64), .bool, .sl (.int .u64), .sl (.int .u64)]])) (a : List AV) (b : List AV) : evT pdLess_E pdLess_h r 3000 false [.code (bodyOf Try.f31)] (T0 0 [.agg (etaL [.bool, .sl (.int .u64), .sl (.int .u64), .bool, .sl (.int .u64), .sl (.int .u64)] 0 a), .agg (etaL [.bool, .sl (.int .u64), .sl (.int .u64), .bool, .sl (.int .u64), .sl (.int .u64)] 0 b)]) [] = pdLess_b0  a b := by kernel_rfl
theorem pdLess_ev (k : Nat) (a : List AV) (b : List AV) : evM pdLess_E pdLess_h 3000 k [.code (bodyOf Try.f31)] (T0 0 [.agg (etaL [.bool, .sl (.int .u64), .sl (.int .u64), .bool, .sl (.int .u64), .sl (.int .u64)] 0 a), .agg (etaL [.bool, .sl (.int .u64), .sl (.int .u64), .bool, .sl (.int .u64), .sl (.int .u64)] 0 b)]) [] = pdLess_b0  a b := by
  exact pdLess_s0 _ a b

/-! ### plumb/pred.square -/
def pdSquare_h : Nat → Option Head := hintOf []
def pdSquare_b0  (a : List AV) : Option (List AV) :=
  Option.bind
  (pdPlusF
    [AV.agg [AV.bool (AV.toBool (aget a 0)), AV.ints .u64 (AV.asInts (aget a 1)), AV.ints .u64 (AV.asInts (aget a 2))],
      AV.agg [AV.bool (AV.toBool (aget a 0)), AV.ints .u64 (AV.asInts (aget a 1)), AV.ints .u64 (AV.asInts (aget a 2))]])
  fun t =>
  Option.bind
    (pdPlusF
      [AV.agg [AV.bool (AV.toBool (aget a 3)), AV.ints .u64 (AV.asInts (aget a 4)), AV.ints .u64 (AV.asInts (aget a 5))],
        AV.agg [AV.bool (AV.toBool (aget a 3)), AV.ints .u64 (AV.asInts (aget a 4)), AV.ints .u64 (AV.asInts (aget a 5))]])
    fun t_1 =>
    Option.bind
      (pdSumF
        [AV.agg [AV.bool (AV.toBool (aget t 0)), AV.list (ETy.st [ETy.bool, ETy.sl (ETy.int .u64), ETy.sl (ETy.int .u64)]) (AV.asList (aget t 1))],
          AV.agg [AV.bool (AV.toBool (aget t_1 0)), AV.list (ETy.st [ETy.bool, ETy.sl (ETy.int .u64), ETy.sl (ETy.int .u64)]) (AV.asList (aget t_1 1))]])
      fun t => some [AV.bool (AV.toBool (aget t 0)), AV.ints .u64 (AV.asInts (aget t 1)), AV.ints .u64 (AV.asInts (aget t 2))]
noncomputable def pdSquare_E : Env (dens [.st [.bool, .sl (.int .u64), .sl (.int .u64)]]) := envR S.tab [(34, mkF [.sl (.st [.bool, .sl (.int .u64), .sl (.int .u64)])] [.st [.bool, .sl (.st [.bool, .sl (.int .u64), .sl (.int .u64)])]] pdPlusF), (33, mkF [.sl (.st [.bool, .sl (.st [.bool, .sl (.int .u64), .sl (.int .u64)])])] [.st [.bool, .sl (.int .u64), .sl (.int .u64)]] pdSumF)] Try.f32 [.cell 2 36] [.st [.bool, .sl (.int .u64), .sl (.int .u64)]]
theorem pdSquare_s0 (r : Rec (dens [.st [.bool, .sl (.int .u64), .sl (.int .u64)]])) (a : List AV) : evT pdSquare_E pdSquare_h r 3000 false [.code (bodyOf Try.f32)] (T0 0 [.agg (etaL [.bool, .sl (.int .u64), .sl (.int .u64), .bool, .sl (.int .u64), .sl (.int .u64)] 0 a)]) [] = pdSquare_b0  a := by kernel_rfl
theorem pdSquare_ev (k : Nat) (a : List AV) : evM pdSquare_E pdSquare_h 3000 k [.code (bodyOf Try.f32)] (T0 0 [.agg (etaL [.bool, .sl (.int .u64), .sl (.int .u64), .bool, .sl (.int .u64), .sl (.int .u64)] 0 a)]) [] = pdSquare_b0  a := by
  exact pdSquare_s0 _ a

/-! ### plumb/pred.area -/
def pdArea_h : Nat → Option Head := hintOf []
def pdArea_b0  (a : List AV) (b : List AV) (c : List AV) : Option (List AV) :=
  Option.bind
  (pdLessF
    ([AV.bool (AV.toBool (aget b 0)), AV.ints .u64 (AV.asInts (aget b 1)), AV.ints .u64 (AV.asInts (aget b 2)), AV.bool (AV.toBool (aget b 3)),
        AV.ints .u64 (AV.asInts (aget b 4)), AV.ints .u64 (AV.asInts (aget b 5))],
      [AV.bool (AV.toBool (aget a 0)), AV.ints .u64 (AV.asInts (aget a 1)), AV.ints .u64 (AV.asInts (aget a 2)), AV.bool (AV.toBool (aget a 3)),
        AV.ints .u64 (AV.asInts (aget a 4)), AV.ints .u64 (AV.asInts (aget a 5))]))
  fun t =>
  Option.bind
    (pdLessF
      ([AV.bool (AV.toBool (aget c 0)), AV.ints .u64 (AV.asInts (aget c 1)), AV.ints .u64 (AV.asInts (aget c 2)), AV.bool (AV.toBool (aget c 3)),
          AV.ints .u64 (AV.asInts (aget c 4)), AV.ints .u64 (AV.asInts (aget c 5))],
        [AV.bool (AV.toBool (aget a 0)), AV.ints .u64 (AV.asInts (aget a 1)), AV.ints .u64 (AV.asInts (aget a 2)), AV.bool (AV.toBool (aget a 3)),
          AV.ints .u64 (AV.asInts (aget a 4)), AV.ints .u64 (AV.asInts (aget a 5))]))
    fun t_1 =>
    Option.bind
      (pdPlusF
        [AV.agg [AV.bool (AV.toBool (aget t 0)), AV.ints .u64 (AV.asInts (aget t 1)), AV.ints .u64 (AV.asInts (aget t 2))],
          AV.agg [AV.bool (AV.toBool (aget t_1 3)), AV.ints .u64 (AV.asInts (aget t_1 4)), AV.ints .u64 (AV.asInts (aget t_1 5))]])
      fun t_2 =>
      Option.bind
        (pdMinusF
          [AV.agg [AV.bool (AV.toBool (aget t 3)), AV.ints .u64 (AV.asInts (aget t 4)), AV.ints .u64 (AV.asInts (aget t 5))],
            AV.agg [AV.bool (AV.toBool (aget t_1 0)), AV.ints .u64 (AV.asInts (aget t_1 1)), AV.ints .u64 (AV.asInts (aget t_1 2))]])
        fun t =>
        Option.bind
          (pdSumF
            [AV.agg [AV.bool (AV.toBool (aget t_2 0)), AV.list (ETy.st [ETy.bool, ETy.sl (ETy.int .u64), ETy.sl (ETy.int .u64)]) (AV.asList (aget t_2 1))],
              AV.agg [AV.bool (AV.toBool (aget t 0)), AV.list (ETy.st [ETy.bool, ETy.sl (ETy.int .u64), ETy.sl (ETy.int .u64)]) (AV.asList (aget t 1))]])
          fun t => some [AV.bool (AV.toBool (aget t 0)), AV.ints .u64 (AV.asInts (aget t 1)), AV.ints .u64 (AV.asInts (aget t 2))]
noncomputable def pdArea_E : Env (dens [.st [.bool, .sl (.int .u64), .sl (.int .u64)]]) := envR S.tab [(31, mkF [.st [.bool, .sl (.int .u64), .sl (.int .u64), .bool, .sl (.int .u64), .sl (.int .u64)], .st [.bool, .sl (.int .u64), .sl (.int .u64), .bool, .sl (.int .u64), .sl (.int .u64)]] [.st [.bool, .sl (.int .u64), .sl (.int .u64), .bool, .sl (.int .u64), .sl (.int .u64)]] pdLessF), (34, mkF [.sl (.st [.bool, .sl (.int .u64), .sl (.int .u64)])] [.st [.bool, .sl (.st [.bool, .sl (.int .u64), .sl (.int .u64)])]] pdPlusF), (35, mkF [.sl (.st [.bool, .sl (.int .u64), .sl (.int .u64)])] [.st [.bool, .sl (.st [.bool, .sl (.int .u64), .sl (.int .u64)])]] pdMinusF), (33, mkF [.sl (.st [.bool, .sl (.st [.bool, .sl (.int .u64), .sl (.int .u64)])])] [.st [.bool, .sl (.int .u64), .sl (.int .u64)]] pdSumF)] Try.f30 [.cell 6 36] [.st [.bool, .sl (.int .u64), .sl (.int .u64)]]
theorem pdArea_s0 (r : Rec (dens [.st [.bool, .sl (.int .u64), .sl (.int .u64)]])) (a : List AV) (b : List AV) (c : List AV) : evT pdArea_E pdArea_h r 3000 false [.code (bodyOf Try.f30)] (T0 0 [.agg (etaL [.bool, .sl (.int .u64), .sl (.int .u64), .bool, .sl (.int .u64), .sl (.int .u64)] 0 a), .agg (etaL [.bool, .sl (.int .u64), .sl (.int .u64), .bool, .sl (.int .u64), .sl (.int .u64)] 0 b), .agg (etaL [.bool, .sl (.int .u64), .sl (.int .u64), .bool, .sl (.int .u64), .sl (.int .u64)] 0 c)]) [] = pdArea_b0  a b c := by kernel_rfl
theorem pdArea_ev (k : Nat) (a : List AV) (b : List AV) (c : List AV) : evM pdArea_E pdArea_h 3000 k [.code (bodyOf Try.f30)] (T0 0 [.agg (etaL [.bool, .sl (.int .u64), .sl (.int .u64), .bool, .sl (.int .u64), .sl (.int .u64)] 0 a), .agg (etaL [.bool, .sl (.int .u64), .sl (.int .u64), .bool, .sl (.int .u64), .sl (.int .u64)] 0 b), .agg (etaL [.bool, .sl (.int .u64), .sl (.int .u64), .bool, .sl (.int .u64), .sl (.int .u64)] 0 c)]) [] = pdArea_b0  a b c := by
  exact pdArea_s0 _ a b c

/-! ### plumb/pred.compare -/
def pdCompare_h : Nat → Option Head := hintOf []
def pdCompare_b0  (a : List AV) (b : List AV) : Option (Int) :=
  Option.bind
  (raCmpF
    ([AV.bool (AV.toBool (aget a 0)), AV.ints .u64 (AV.asInts (aget a 1)), AV.ints .u64 (AV.asInts (aget a 2))],
      [AV.bool (AV.toBool (aget b 0)), AV.ints .u64 (AV.asInts (aget b 1)), AV.ints .u64 (AV.asInts (aget b 2))]))
  fun t => some t.1
noncomputable def pdCompare_E : Env (dens [.int .i64]) := envOf S.tab [(54, mkF [.st [.bool, .sl (.int .u64), .sl (.int .u64)], .st [.bool, .sl (.int .u64), .sl (.int .u64)]] [.int .i64, .int .i64] raCmpF)] Try.f38 [4] [.int .i64]
theorem pdCompare_s0 (r : Rec (dens [.int .i64])) (a : List AV) (b : List AV) : evT pdCompare_E pdCompare_h r 3000 false [.code (bodyOf Try.f38)] (T0 0 [.agg (etaL [.bool, .sl (.int .u64), .sl (.int .u64)] 0 a), .agg (etaL [.bool, .sl (.int .u64), .sl (.int .u64)] 0 b)]) [] = pdCompare_b0  a b := by kernel_rfl
theorem pdCompare_ev (k : Nat) (a : List AV) (b : List AV) : evM pdCompare_E pdCompare_h 3000 k [.code (bodyOf Try.f38)] (T0 0 [.agg (etaL [.bool, .sl (.int .u64), .sl (.int .u64)] 0 a), .agg (etaL [.bool, .sl (.int .u64), .sl (.int .u64)] 0 b)]) [] = pdCompare_b0  a b := by
  exact pdCompare_s0 _ a b

/-! ### plumb/pred.order -/
def pdOrder_h : Nat → Option Head := hintOf []
def pdOrder_b0  (a : List AV) (b : List AV) : Option (Int) :=
  Option.bind
  (pdCompareF
    ([AV.bool (AV.toBool (aget a 0)), AV.ints .u64 (AV.asInts (aget a 1)), AV.ints .u64 (AV.asInts (aget a 2))],
      [AV.bool (AV.toBool (aget b 0)), AV.ints .u64 (AV.asInts (aget b 1)), AV.ints .u64 (AV.asInts (aget b 2))]))
  fun t =>
  bif !decide (t = (0 : Int)) then some t
  else
    Option.bind
      (pdCompareF
        ([AV.bool (AV.toBool (aget a 3)), AV.ints .u64 (AV.asInts (aget a 4)), AV.ints .u64 (AV.asInts (aget a 5))],
          [AV.bool (AV.toBool (aget b 3)), AV.ints .u64 (AV.asInts (aget b 4)), AV.ints .u64 (AV.asInts (aget b 5))]))
      fun t => some t
noncomputable def pdOrder_E : Env (dens [.int .i64]) := envOf S.tab [(38, mkF [.st [.bool, .sl (.int .u64), .sl (.int .u64)], .st [.bool, .sl (.int .u64), .sl (.int .u64)]] [.int .i64] pdCompareF)] Try.f39 [4] [.int .i64]
theorem pdOrder_s0 (r : Rec (dens [.int .i64])) (a : List AV) (b : List AV) : evT pdOrder_E pdOrder_h r 3000 false [.code (bodyOf Try.f39)] (T0 0 [.agg (etaL [.bool, .sl (.int .u64), .sl (.int .u64), .bool, .sl (.int .u64), .sl (.int .u64)] 0 a), .agg (etaL [.bool, .sl (.int .u64), .sl (.int .u64), .bool, .sl (.int .u64), .sl (.int .u64)] 0 b)]) [] = pdOrder_b0  a b := by kernel_rfl
theorem pdOrder_ev (k : Nat) (a : List AV) (b : List AV) : evM pdOrder_E pdOrder_h 3000 k [.code (bodyOf Try.f39)] (T0 0 [.agg (etaL [.bool, .sl (.int .u64), .sl (.int .u64), .bool, .sl (.int .u64), .sl (.int .u64)] 0 a), .agg (etaL [.bool, .sl (.int .u64), .sl (.int .u64), .bool, .sl (.int .u64), .sl (.int .u64)] 0 b)]) [] = pdOrder_b0  a b := by
  exact pdOrder_s0 _ a b

/-! ### plumb/pred.Orient -/
def pdOrient_h : Nat → Option Head := hintOf []
def pdOrient_b0  (a : List AV) (b : List AV) (c : List AV) : Option (Int × Int) :=
  Option.bind
  (pdPlacesF
    [AV.agg [AV.int .u64 (AV.toInt (aget a 0)), AV.int .u64 (AV.toInt (aget a 1))],
      AV.agg [AV.int .u64 (AV.toInt (aget b 0)), AV.int .u64 (AV.toInt (aget b 1))],
      AV.agg [AV.int .u64 (AV.toInt (aget c 0)), AV.int .u64 (AV.toInt (aget c 1))]])
  fun t =>
  bif !t.2 then some ((0 : Int), (220 : Int))
  else
    bif inRange (0 : Int) (List.length t.1) then
      bif inRange (1 : Int) (List.length t.1) then
        bif inRange (2 : Int) (List.length t.1) then
          Option.bind
            (pdAreaF
              ([AV.bool (AV.toBool (aget (AV.flds (aget t.1 0)) 0)), AV.ints .u64 (AV.asInts (aget (AV.flds (aget t.1 0)) 1)),
                  AV.ints .u64 (AV.asInts (aget (AV.flds (aget t.1 0)) 2)), AV.bool (AV.toBool (aget (AV.flds (aget t.1 0)) 3)),
                  AV.ints .u64 (AV.asInts (aget (AV.flds (aget t.1 0)) 4)), AV.ints .u64 (AV.asInts (aget (AV.flds (aget t.1 0)) 5))],
                [AV.bool (AV.toBool (aget (AV.flds (aget t.1 1)) 0)), AV.ints .u64 (AV.asInts (aget (AV.flds (aget t.1 1)) 1)),
                  AV.ints .u64 (AV.asInts (aget (AV.flds (aget t.1 1)) 2)), AV.bool (AV.toBool (aget (AV.flds (aget t.1 1)) 3)),
                  AV.ints .u64 (AV.asInts (aget (AV.flds (aget t.1 1)) 4)), AV.ints .u64 (AV.asInts (aget (AV.flds (aget t.1 1)) 5))],
                [AV.bool (AV.toBool (aget (AV.flds (aget t.1 2)) 0)), AV.ints .u64 (AV.asInts (aget (AV.flds (aget t.1 2)) 1)),
                  AV.ints .u64 (AV.asInts (aget (AV.flds (aget t.1 2)) 2)), AV.bool (AV.toBool (aget (AV.flds (aget t.1 2)) 3)),
                  AV.ints .u64 (AV.asInts (aget (AV.flds (aget t.1 2)) 4)), AV.ints .u64 (AV.asInts (aget (AV.flds (aget t.1 2)) 5))]))
            fun t =>
            Option.bind (raSignF [AV.bool (AV.toBool (aget t 0)), AV.ints .u64 (AV.asInts (aget t 1)), AV.ints .u64 (AV.asInts (aget t 2))]) fun t =>
              some (t, (0 : Int))
        else none
      else none
    else none
noncomputable def pdOrient_E : Env (dens [.int .i64, .int .i64]) := envOf S.tab [(29, mkF [.sl (.st [.int .u64, .int .u64])] [.sl (.st [.bool, .sl (.int .u64), .sl (.int .u64), .bool, .sl (.int .u64), .sl (.int .u64)]), .bool] pdPlacesF), (15, mkF [.st [.bool, .sl (.int .u64), .sl (.int .u64)]] [.int .i64] raSignF), (30, mkF [.st [.bool, .sl (.int .u64), .sl (.int .u64), .bool, .sl (.int .u64), .sl (.int .u64)], .st [.bool, .sl (.int .u64), .sl (.int .u64), .bool, .sl (.int .u64), .sl (.int .u64)], .st [.bool, .sl (.int .u64), .sl (.int .u64), .bool, .sl (.int .u64), .sl (.int .u64)]] [.st [.bool, .sl (.int .u64), .sl (.int .u64)]] pdAreaF)] Try.f10 [6, 7] [.int .i64, .int .i64]
theorem pdOrient_s0 (r : Rec (dens [.int .i64, .int .i64])) (a : List AV) (b : List AV) (c : List AV) : evT pdOrient_E pdOrient_h r 3000 false [.code (bodyOf Try.f10)] (T0 0 [.agg (etaL [.int .u64, .int .u64] 0 a), .agg (etaL [.int .u64, .int .u64] 0 b), .agg (etaL [.int .u64, .int .u64] 0 c)]) [] = pdOrient_b0  a b c := by kernel_rfl
theorem pdOrient_ev (k : Nat) (a : List AV) (b : List AV) (c : List AV) : evM pdOrient_E pdOrient_h 3000 k [.code (bodyOf Try.f10)] (T0 0 [.agg (etaL [.int .u64, .int .u64] 0 a), .agg (etaL [.int .u64, .int .u64] 0 b), .agg (etaL [.int .u64, .int .u64] 0 c)]) [] = pdOrient_b0  a b c := by
  exact pdOrient_s0 _ a b c

/-! ### plumb/pred.InCircle -/
def pdInCircle_h : Nat → Option Head := hintOf []
def pdInCircle_b0  (a : List AV) (b : List AV) (c : List AV) (d : List AV) : Option (Int × Int) :=
  Option.bind
  (pdPlacesF
    [AV.agg [AV.int .u64 (AV.toInt (aget a 0)), AV.int .u64 (AV.toInt (aget a 1))],
      AV.agg [AV.int .u64 (AV.toInt (aget b 0)), AV.int .u64 (AV.toInt (aget b 1))],
      AV.agg [AV.int .u64 (AV.toInt (aget c 0)), AV.int .u64 (AV.toInt (aget c 1))],
      AV.agg [AV.int .u64 (AV.toInt (aget d 0)), AV.int .u64 (AV.toInt (aget d 1))]])
  fun t =>
  bif !t.2 then some ((0 : Int), (220 : Int))
  else
    bif inRange (0 : Int) (List.length t.1) then
      bif inRange (3 : Int) (List.length t.1) then
        Option.bind
          (pdLessF
            ([AV.bool (AV.toBool (aget (AV.flds (aget t.1 0)) 0)), AV.ints .u64 (AV.asInts (aget (AV.flds (aget t.1 0)) 1)),
                AV.ints .u64 (AV.asInts (aget (AV.flds (aget t.1 0)) 2)), AV.bool (AV.toBool (aget (AV.flds (aget t.1 0)) 3)),
                AV.ints .u64 (AV.asInts (aget (AV.flds (aget t.1 0)) 4)), AV.ints .u64 (AV.asInts (aget (AV.flds (aget t.1 0)) 5))],
              [AV.bool (AV.toBool (aget (AV.flds (aget t.1 3)) 0)), AV.ints .u64 (AV.asInts (aget (AV.flds (aget t.1 3)) 1)),
                AV.ints .u64 (AV.asInts (aget (AV.flds (aget t.1 3)) 2)), AV.bool (AV.toBool (aget (AV.flds (aget t.1 3)) 3)),
                AV.ints .u64 (AV.asInts (aget (AV.flds (aget t.1 3)) 4)), AV.ints .u64 (AV.asInts (aget (AV.flds (aget t.1 3)) 5))]))
          fun t_1 =>
          bif inRange (1 : Int) (List.length t.1) then
            bif inRange (3 : Int) (List.length t.1) then
              Option.bind
                (pdLessF
                  ([AV.bool (AV.toBool (aget (AV.flds (aget t.1 1)) 0)), AV.ints .u64 (AV.asInts (aget (AV.flds (aget t.1 1)) 1)),
                      AV.ints .u64 (AV.asInts (aget (AV.flds (aget t.1 1)) 2)), AV.bool (AV.toBool (aget (AV.flds (aget t.1 1)) 3)),
                      AV.ints .u64 (AV.asInts (aget (AV.flds (aget t.1 1)) 4)), AV.ints .u64 (AV.asInts (aget (AV.flds (aget t.1 1)) 5))],
                    [AV.bool (AV.toBool (aget (AV.flds (aget t.1 3)) 0)), AV.ints .u64 (AV.asInts (aget (AV.flds (aget t.1 3)) 1)),
                      AV.ints .u64 (AV.asInts (aget (AV.flds (aget t.1 3)) 2)), AV.bool (AV.toBool (aget (AV.flds (aget t.1 3)) 3)),
                      AV.ints .u64 (AV.asInts (aget (AV.flds (aget t.1 3)) 4)), AV.ints .u64 (AV.asInts (aget (AV.flds (aget t.1 3)) 5))]))
                fun t_2 =>
                bif inRange (2 : Int) (List.length t.1) then
                  bif inRange (3 : Int) (List.length t.1) then
                    Option.bind
                      (pdLessF
                        ([AV.bool (AV.toBool (aget (AV.flds (aget t.1 2)) 0)), AV.ints .u64 (AV.asInts (aget (AV.flds (aget t.1 2)) 1)),
                            AV.ints .u64 (AV.asInts (aget (AV.flds (aget t.1 2)) 2)), AV.bool (AV.toBool (aget (AV.flds (aget t.1 2)) 3)),
                            AV.ints .u64 (AV.asInts (aget (AV.flds (aget t.1 2)) 4)), AV.ints .u64 (AV.asInts (aget (AV.flds (aget t.1 2)) 5))],
                          [AV.bool (AV.toBool (aget (AV.flds (aget t.1 3)) 0)), AV.ints .u64 (AV.asInts (aget (AV.flds (aget t.1 3)) 1)),
                            AV.ints .u64 (AV.asInts (aget (AV.flds (aget t.1 3)) 2)), AV.bool (AV.toBool (aget (AV.flds (aget t.1 3)) 3)),
                            AV.ints .u64 (AV.asInts (aget (AV.flds (aget t.1 3)) 4)), AV.ints .u64 (AV.asInts (aget (AV.flds (aget t.1 3)) 5))]))
                      fun t =>
                      Option.bind
                        (pdSquareF
                          [AV.bool (AV.toBool (aget t_1 0)), AV.ints .u64 (AV.asInts (aget t_1 1)), AV.ints .u64 (AV.asInts (aget t_1 2)),
                            AV.bool (AV.toBool (aget t_1 3)), AV.ints .u64 (AV.asInts (aget t_1 4)), AV.ints .u64 (AV.asInts (aget t_1 5))])
                        fun t_3 =>
                        Option.bind
                          (pdSquareF
                            [AV.bool (AV.toBool (aget t_2 0)), AV.ints .u64 (AV.asInts (aget t_2 1)), AV.ints .u64 (AV.asInts (aget t_2 2)),
                              AV.bool (AV.toBool (aget t_2 3)), AV.ints .u64 (AV.asInts (aget t_2 4)), AV.ints .u64 (AV.asInts (aget t_2 5))])
                          fun t_4 =>
                          Option.bind
                            (pdSquareF
                              [AV.bool (AV.toBool (aget t 0)), AV.ints .u64 (AV.asInts (aget t 1)), AV.ints .u64 (AV.asInts (aget t 2)),
                                AV.bool (AV.toBool (aget t 3)), AV.ints .u64 (AV.asInts (aget t 4)), AV.ints .u64 (AV.asInts (aget t 5))])
                            fun t_5 =>
                            Option.bind
                              (pdPlusF
                                [AV.agg [AV.bool (AV.toBool (aget t_1 0)), AV.ints .u64 (AV.asInts (aget t_1 1)), AV.ints .u64 (AV.asInts (aget t_1 2))],
                                  AV.agg [AV.bool (AV.toBool (aget t_2 3)), AV.ints .u64 (AV.asInts (aget t_2 4)), AV.ints .u64 (AV.asInts (aget t_2 5))],
                                  AV.agg [AV.bool (AV.toBool (aget t_5 0)), AV.ints .u64 (AV.asInts (aget t_5 1)), AV.ints .u64 (AV.asInts (aget t_5 2))]])
                              fun t_6 =>
                              Option.bind
                                (pdMinusF
                                  [AV.agg [AV.bool (AV.toBool (aget t_1 0)), AV.ints .u64 (AV.asInts (aget t_1 1)), AV.ints .u64 (AV.asInts (aget t_1 2))],
                                    AV.agg [AV.bool (AV.toBool (aget t 3)), AV.ints .u64 (AV.asInts (aget t 4)), AV.ints .u64 (AV.asInts (aget t 5))],
                                    AV.agg
                                      [AV.bool (AV.toBool (aget t_4 0)), AV.ints .u64 (AV.asInts (aget t_4 1)), AV.ints .u64 (AV.asInts (aget t_4 2))]])
                                fun t_7 =>
                                Option.bind
                                  (pdMinusF
                                    [AV.agg
                                        [AV.bool (AV.toBool (aget t_1 3)), AV.ints .u64 (AV.asInts (aget t_1 4)), AV.ints .u64 (AV.asInts (aget t_1 5))],
                                      AV.agg
                                        [AV.bool (AV.toBool (aget t_2 0)), AV.ints .u64 (AV.asInts (aget t_2 1)), AV.ints .u64 (AV.asInts (aget t_2 2))],
                                      AV.agg
                                        [AV.bool (AV.toBool (aget t_5 0)), AV.ints .u64 (AV.asInts (aget t_5 1)), AV.ints .u64 (AV.asInts (aget t_5 2))]])
                                  fun t_8 =>
                                  Option.bind
                                    (pdPlusF
                                      [AV.agg
                                          [AV.bool (AV.toBool (aget t_1 3)), AV.ints .u64 (AV.asInts (aget t_1 4)), AV.ints .u64 (AV.asInts (aget t_1 5))],
                                        AV.agg [AV.bool (AV.toBool (aget t 0)), AV.ints .u64 (AV.asInts (aget t 1)), AV.ints .u64 (AV.asInts (aget t 2))],
                                        AV.agg
                                          [AV.bool (AV.toBool (aget t_4 0)), AV.ints .u64 (AV.asInts (aget t_4 1)), AV.ints .u64 (AV.asInts (aget t_4 2))]])
                                    fun t_9 =>
                                    Option.bind
                                      (pdPlusF
                                        [AV.agg
                                            [AV.bool (AV.toBool (aget t_3 0)), AV.ints .u64 (AV.asInts (aget t_3 1)),
                                              AV.ints .u64 (AV.asInts (aget t_3 2))],
                                          AV.agg
                                            [AV.bool (AV.toBool (aget t_2 0)), AV.ints .u64 (AV.asInts (aget t_2 1)),
                                              AV.ints .u64 (AV.asInts (aget t_2 2))],
                                          AV.agg
                                            [AV.bool (AV.toBool (aget t 3)), AV.ints .u64 (AV.asInts (aget t 4)), AV.ints .u64 (AV.asInts (aget t 5))]])
                                      fun t_10 =>
                                      Option.bind
                                        (pdMinusF
                                          [AV.agg
                                              [AV.bool (AV.toBool (aget t_3 0)), AV.ints .u64 (AV.asInts (aget t_3 1)),
                                                AV.ints .u64 (AV.asInts (aget t_3 2))],
                                            AV.agg
                                              [AV.bool (AV.toBool (aget t 0)), AV.ints .u64 (AV.asInts (aget t 1)), AV.ints .u64 (AV.asInts (aget t 2))],
                                            AV.agg
                                              [AV.bool (AV.toBool (aget t_2 3)), AV.ints .u64 (AV.asInts (aget t_2 4)),
                                                AV.ints .u64 (AV.asInts (aget t_2 5))]])
                                        fun t =>
                                        Option.bind
                                          (pdSumF
                                            [AV.agg
                                                [AV.bool (AV.toBool (aget t_6 0)),
                                                  AV.list (ETy.st [ETy.bool, ETy.sl (ETy.int .u64), ETy.sl (ETy.int .u64)]) (AV.asList (aget t_6 1))],
                                              AV.agg
                                                [AV.bool (AV.toBool (aget t_7 0)),
                                                  AV.list (ETy.st [ETy.bool, ETy.sl (ETy.int .u64), ETy.sl (ETy.int .u64)]) (AV.asList (aget t_7 1))],
                                              AV.agg
                                                [AV.bool (AV.toBool (aget t_8 0)),
                                                  AV.list (ETy.st [ETy.bool, ETy.sl (ETy.int .u64), ETy.sl (ETy.int .u64)]) (AV.asList (aget t_8 1))],
                                              AV.agg
                                                [AV.bool (AV.toBool (aget t_9 0)),
                                                  AV.list (ETy.st [ETy.bool, ETy.sl (ETy.int .u64), ETy.sl (ETy.int .u64)]) (AV.asList (aget t_9 1))],
                                              AV.agg
                                                [AV.bool (AV.toBool (aget t_10 0)),
                                                  AV.list (ETy.st [ETy.bool, ETy.sl (ETy.int .u64), ETy.sl (ETy.int .u64)]) (AV.asList (aget t_10 1))],
                                              AV.agg
                                                [AV.bool (AV.toBool (aget t 0)),
                                                  AV.list (ETy.st [ETy.bool, ETy.sl (ETy.int .u64), ETy.sl (ETy.int .u64)]) (AV.asList (aget t 1))]])
                                          fun t =>
                                          Option.bind
                                            (raSignF
                                              [AV.bool (AV.toBool (aget t 0)), AV.ints .u64 (AV.asInts (aget t 1)), AV.ints .u64 (AV.asInts (aget t 2))])
                                            fun t => some (t, (0 : Int))
                  else none
                else none
            else none
          else none
      else none
    else none
noncomputable def pdInCircle_E : Env (dens [.int .i64, .int .i64]) := envOf S.tab [(29, mkF [.sl (.st [.int .u64, .int .u64])] [.sl (.st [.bool, .sl (.int .u64), .sl (.int .u64), .bool, .sl (.int .u64), .sl (.int .u64)]), .bool] pdPlacesF), (31, mkF [.st [.bool, .sl (.int .u64), .sl (.int .u64), .bool, .sl (.int .u64), .sl (.int .u64)], .st [.bool, .sl (.int .u64), .sl (.int .u64), .bool, .sl (.int .u64), .sl (.int .u64)]] [.st [.bool, .sl (.int .u64), .sl (.int .u64), .bool, .sl (.int .u64), .sl (.int .u64)]] pdLessF), (32, mkF [.st [.bool, .sl (.int .u64), .sl (.int .u64), .bool, .sl (.int .u64), .sl (.int .u64)]] [.st [.bool, .sl (.int .u64), .sl (.int .u64)]] pdSquareF), (34, mkF [.sl (.st [.bool, .sl (.int .u64), .sl (.int .u64)])] [.st [.bool, .sl (.st [.bool, .sl (.int .u64), .sl (.int .u64)])]] pdPlusF), (35, mkF [.sl (.st [.bool, .sl (.int .u64), .sl (.int .u64)])] [.st [.bool, .sl (.st [.bool, .sl (.int .u64), .sl (.int .u64)])]] pdMinusF), (33, mkF [.sl (.st [.bool, .sl (.st [.bool, .sl (.int .u64), .sl (.int .u64)])])] [.st [.bool, .sl (.int .u64), .sl (.int .u64)]] pdSumF), (15, mkF [.st [.bool, .sl (.int .u64), .sl (.int .u64)]] [.int .i64] raSignF)] Try.f11 [8, 9] [.int .i64, .int .i64]
theorem pdInCircle_s0 (r : Rec (dens [.int .i64, .int .i64])) (a : List AV) (b : List AV) (c : List AV) (d : List AV) : evT pdInCircle_E pdInCircle_h r 3000 false [.code (bodyOf Try.f11)] (T0 0 [.agg (etaL [.int .u64, .int .u64] 0 a), .agg (etaL [.int .u64, .int .u64] 0 b), .agg (etaL [.int .u64, .int .u64] 0 c), .agg (etaL [.int .u64, .int .u64] 0 d)]) [] = pdInCircle_b0  a b c d := by kernel_rfl
theorem pdInCircle_ev (k : Nat) (a : List AV) (b : List AV) (c : List AV) (d : List AV) : evM pdInCircle_E pdInCircle_h 3000 k [.code (bodyOf Try.f11)] (T0 0 [.agg (etaL [.int .u64, .int .u64] 0 a), .agg (etaL [.int .u64, .int .u64] 0 b), .agg (etaL [.int .u64, .int .u64] 0 c), .agg (etaL [.int .u64, .int .u64] 0 d)]) [] = pdInCircle_b0  a b c d := by
  exact pdInCircle_s0 _ a b c d

/-! ### plumb/pred.Between -/
def pdBetween_h : Nat → Option Head := hintOf []
def pdBetween_b0  (a : List AV) (b : List AV) (c : List AV) : Option (Bool × Int) :=
  Option.bind
  (pdPlacesF
    [AV.agg [AV.int .u64 (AV.toInt (aget a 0)), AV.int .u64 (AV.toInt (aget a 1))],
      AV.agg [AV.int .u64 (AV.toInt (aget b 0)), AV.int .u64 (AV.toInt (aget b 1))],
      AV.agg [AV.int .u64 (AV.toInt (aget c 0)), AV.int .u64 (AV.toInt (aget c 1))]])
  fun t =>
  bif !t.2 then some (false, (220 : Int))
  else
    bif inRange (0 : Int) (List.length t.1) then
      bif inRange (1 : Int) (List.length t.1) then
        bif inRange (2 : Int) (List.length t.1) then
          Option.bind
            (pdAreaF
              ([AV.bool (AV.toBool (aget (AV.flds (aget t.1 0)) 0)), AV.ints .u64 (AV.asInts (aget (AV.flds (aget t.1 0)) 1)),
                  AV.ints .u64 (AV.asInts (aget (AV.flds (aget t.1 0)) 2)), AV.bool (AV.toBool (aget (AV.flds (aget t.1 0)) 3)),
                  AV.ints .u64 (AV.asInts (aget (AV.flds (aget t.1 0)) 4)), AV.ints .u64 (AV.asInts (aget (AV.flds (aget t.1 0)) 5))],
                [AV.bool (AV.toBool (aget (AV.flds (aget t.1 1)) 0)), AV.ints .u64 (AV.asInts (aget (AV.flds (aget t.1 1)) 1)),
                  AV.ints .u64 (AV.asInts (aget (AV.flds (aget t.1 1)) 2)), AV.bool (AV.toBool (aget (AV.flds (aget t.1 1)) 3)),
                  AV.ints .u64 (AV.asInts (aget (AV.flds (aget t.1 1)) 4)), AV.ints .u64 (AV.asInts (aget (AV.flds (aget t.1 1)) 5))],
                [AV.bool (AV.toBool (aget (AV.flds (aget t.1 2)) 0)), AV.ints .u64 (AV.asInts (aget (AV.flds (aget t.1 2)) 1)),
                  AV.ints .u64 (AV.asInts (aget (AV.flds (aget t.1 2)) 2)), AV.bool (AV.toBool (aget (AV.flds (aget t.1 2)) 3)),
                  AV.ints .u64 (AV.asInts (aget (AV.flds (aget t.1 2)) 4)), AV.ints .u64 (AV.asInts (aget (AV.flds (aget t.1 2)) 5))]))
            fun t_1 =>
            Option.bind (raSignF [AV.bool (AV.toBool (aget t_1 0)), AV.ints .u64 (AV.asInts (aget t_1 1)), AV.ints .u64 (AV.asInts (aget t_1 2))])
              fun t_2 =>
              bif !decide (t_2 = (0 : Int)) then some (false, (0 : Int))
              else
                bif inRange (0 : Int) (List.length t.1) then
                  bif inRange (2 : Int) (List.length t.1) then
                    Option.bind
                      (pdOrderF
                        ([AV.bool (AV.toBool (aget (AV.flds (aget t.1 0)) 0)), AV.ints .u64 (AV.asInts (aget (AV.flds (aget t.1 0)) 1)),
                            AV.ints .u64 (AV.asInts (aget (AV.flds (aget t.1 0)) 2)), AV.bool (AV.toBool (aget (AV.flds (aget t.1 0)) 3)),
                            AV.ints .u64 (AV.asInts (aget (AV.flds (aget t.1 0)) 4)), AV.ints .u64 (AV.asInts (aget (AV.flds (aget t.1 0)) 5))],
                          [AV.bool (AV.toBool (aget (AV.flds (aget t.1 2)) 0)), AV.ints .u64 (AV.asInts (aget (AV.flds (aget t.1 2)) 1)),
                            AV.ints .u64 (AV.asInts (aget (AV.flds (aget t.1 2)) 2)), AV.bool (AV.toBool (aget (AV.flds (aget t.1 2)) 3)),
                            AV.ints .u64 (AV.asInts (aget (AV.flds (aget t.1 2)) 4)), AV.ints .u64 (AV.asInts (aget (AV.flds (aget t.1 2)) 5))]))
                      fun t_3 =>
                      bif inRange (2 : Int) (List.length t.1) then
                        bif inRange (1 : Int) (List.length t.1) then
                          Option.bind
                            (pdOrderF
                              ([AV.bool (AV.toBool (aget (AV.flds (aget t.1 2)) 0)), AV.ints .u64 (AV.asInts (aget (AV.flds (aget t.1 2)) 1)),
                                  AV.ints .u64 (AV.asInts (aget (AV.flds (aget t.1 2)) 2)), AV.bool (AV.toBool (aget (AV.flds (aget t.1 2)) 3)),
                                  AV.ints .u64 (AV.asInts (aget (AV.flds (aget t.1 2)) 4)),
                                  AV.ints .u64 (AV.asInts (aget (AV.flds (aget t.1 2)) 5))],
                                [AV.bool (AV.toBool (aget (AV.flds (aget t.1 1)) 0)), AV.ints .u64 (AV.asInts (aget (AV.flds (aget t.1 1)) 1)),
                                  AV.ints .u64 (AV.asInts (aget (AV.flds (aget t.1 1)) 2)), AV.bool (AV.toBool (aget (AV.flds (aget t.1 1)) 3)),
                                  AV.ints .u64 (AV.asInts (aget (AV.flds (aget t.1 1)) 4)),
                                  AV.ints .u64 (AV.asInts (aget (AV.flds (aget t.1 1)) 5))]))
                            fun t =>
                            bif decide (t_3 ≤ (0 : Int)) then
                              bif decide (t ≤ (0 : Int)) then some (true, (0 : Int)) else bif decide (t_3 ≥ (0 : Int)) then some (decide (t ≥ (0 : Int)), (0 : Int)) else some (false, (0 : Int))
                            else bif decide (t_3 ≥ (0 : Int)) then some (decide (t ≥ (0 : Int)), (0 : Int)) else some (false, (0 : Int))
                        else none
                      else none
                  else none
                else none
        else none
      else none
    else none
noncomputable def pdBetween_E : Env (dens [.bool, .int .i64]) := envOf S.tab [(29, mkF [.sl (.st [.int .u64, .int .u64])] [.sl (.st [.bool, .sl (.int .u64), .sl (.int .u64), .bool, .sl (.int .u64), .sl (.int .u64)]), .bool] pdPlacesF), (15, mkF [.st [.bool, .sl (.int .u64), .sl (.int .u64)]] [.int .i64] raSignF), (30, mkF [.st [.bool, .sl (.int .u64), .sl (.int .u64), .bool, .sl (.int .u64), .sl (.int .u64)], .st [.bool, .sl (.int .u64), .sl (.int .u64), .bool, .sl (.int .u64), .sl (.int .u64)], .st [.bool, .sl (.int .u64), .sl (.int .u64), .bool, .sl (.int .u64), .sl (.int .u64)]] [.st [.bool, .sl (.int .u64), .sl (.int .u64)]] pdAreaF), (39, mkF [.st [.bool, .sl (.int .u64), .sl (.int .u64), .bool, .sl (.int .u64), .sl (.int .u64)], .st [.bool, .sl (.int .u64), .sl (.int .u64), .bool, .sl (.int .u64), .sl (.int .u64)]] [.int .i64] pdOrderF)] Try.f18 [6, 7] [.bool, .int .i64]
theorem pdBetween_s0 (r : Rec (dens [.bool, .int .i64])) (a : List AV) (b : List AV) (c : List AV) : evT pdBetween_E pdBetween_h r 3000 false [.code (bodyOf Try.f18)] (T0 0 [.agg (etaL [.int .u64, .int .u64] 0 a), .agg (etaL [.int .u64, .int .u64] 0 b), .agg (etaL [.int .u64, .int .u64] 0 c)]) [] = pdBetween_b0  a b c := by kernel_rfl
theorem pdBetween_ev (k : Nat) (a : List AV) (b : List AV) (c : List AV) : evM pdBetween_E pdBetween_h 3000 k [.code (bodyOf Try.f18)] (T0 0 [.agg (etaL [.int .u64, .int .u64] 0 a), .agg (etaL [.int .u64, .int .u64] 0 b), .agg (etaL [.int .u64, .int .u64] 0 c)]) [] = pdBetween_b0  a b c := by
  exact pdBetween_s0 _ a b c

/-! ### plumb/pred.Nearer -/
def pdNearer_h : Nat → Option Head := hintOf []
def pdNearer_b0  (a : List AV) (b : List AV) (c : List AV) (d : List AV) : Option (Int × Int) :=
  Option.bind
  (pdPlacesF
    [AV.agg [AV.int .u64 (AV.toInt (aget a 0)), AV.int .u64 (AV.toInt (aget a 1))],
      AV.agg [AV.int .u64 (AV.toInt (aget b 0)), AV.int .u64 (AV.toInt (aget b 1))],
      AV.agg [AV.int .u64 (AV.toInt (aget c 0)), AV.int .u64 (AV.toInt (aget c 1))],
      AV.agg [AV.int .u64 (AV.toInt (aget d 0)), AV.int .u64 (AV.toInt (aget d 1))]])
  fun t =>
  bif !t.2 then some ((0 : Int), (220 : Int))
  else
    bif inRange (0 : Int) (List.length t.1) then
      bif inRange (1 : Int) (List.length t.1) then
        Option.bind
          (pdLessF
            ([AV.bool (AV.toBool (aget (AV.flds (aget t.1 0)) 0)), AV.ints .u64 (AV.asInts (aget (AV.flds (aget t.1 0)) 1)),
                AV.ints .u64 (AV.asInts (aget (AV.flds (aget t.1 0)) 2)), AV.bool (AV.toBool (aget (AV.flds (aget t.1 0)) 3)),
                AV.ints .u64 (AV.asInts (aget (AV.flds (aget t.1 0)) 4)), AV.ints .u64 (AV.asInts (aget (AV.flds (aget t.1 0)) 5))],
              [AV.bool (AV.toBool (aget (AV.flds (aget t.1 1)) 0)), AV.ints .u64 (AV.asInts (aget (AV.flds (aget t.1 1)) 1)),
                AV.ints .u64 (AV.asInts (aget (AV.flds (aget t.1 1)) 2)), AV.bool (AV.toBool (aget (AV.flds (aget t.1 1)) 3)),
                AV.ints .u64 (AV.asInts (aget (AV.flds (aget t.1 1)) 4)), AV.ints .u64 (AV.asInts (aget (AV.flds (aget t.1 1)) 5))]))
          fun t_1 =>
          Option.bind
            (pdSquareF
              [AV.bool (AV.toBool (aget t_1 0)), AV.ints .u64 (AV.asInts (aget t_1 1)), AV.ints .u64 (AV.asInts (aget t_1 2)),
                AV.bool (AV.toBool (aget t_1 3)), AV.ints .u64 (AV.asInts (aget t_1 4)), AV.ints .u64 (AV.asInts (aget t_1 5))])
            fun t_2 =>
            bif inRange (2 : Int) (List.length t.1) then
              bif inRange (3 : Int) (List.length t.1) then
                Option.bind
                  (pdLessF
                    ([AV.bool (AV.toBool (aget (AV.flds (aget t.1 2)) 0)), AV.ints .u64 (AV.asInts (aget (AV.flds (aget t.1 2)) 1)),
                        AV.ints .u64 (AV.asInts (aget (AV.flds (aget t.1 2)) 2)), AV.bool (AV.toBool (aget (AV.flds (aget t.1 2)) 3)),
                        AV.ints .u64 (AV.asInts (aget (AV.flds (aget t.1 2)) 4)), AV.ints .u64 (AV.asInts (aget (AV.flds (aget t.1 2)) 5))],
                      [AV.bool (AV.toBool (aget (AV.flds (aget t.1 3)) 0)), AV.ints .u64 (AV.asInts (aget (AV.flds (aget t.1 3)) 1)),
                        AV.ints .u64 (AV.asInts (aget (AV.flds (aget t.1 3)) 2)), AV.bool (AV.toBool (aget (AV.flds (aget t.1 3)) 3)),
                        AV.ints .u64 (AV.asInts (aget (AV.flds (aget t.1 3)) 4)), AV.ints .u64 (AV.asInts (aget (AV.flds (aget t.1 3)) 5))]))
                  fun t =>
                  Option.bind
                    (pdSquareF
                      [AV.bool (AV.toBool (aget t 0)), AV.ints .u64 (AV.asInts (aget t 1)), AV.ints .u64 (AV.asInts (aget t 2)),
                        AV.bool (AV.toBool (aget t 3)), AV.ints .u64 (AV.asInts (aget t 4)), AV.ints .u64 (AV.asInts (aget t 5))])
                    fun t =>
                    Option.bind
                      (pdCompareF
                        ([AV.bool (AV.toBool (aget t_2 0)), AV.ints .u64 (AV.asInts (aget t_2 1)), AV.ints .u64 (AV.asInts (aget t_2 2))],
                          [AV.bool (AV.toBool (aget t 0)), AV.ints .u64 (AV.asInts (aget t 1)), AV.ints .u64 (AV.asInts (aget t 2))]))
                      fun t => some (t, (0 : Int))
              else none
            else none
      else none
    else none
noncomputable def pdNearer_E : Env (dens [.int .i64, .int .i64]) := envOf S.tab [(29, mkF [.sl (.st [.int .u64, .int .u64])] [.sl (.st [.bool, .sl (.int .u64), .sl (.int .u64), .bool, .sl (.int .u64), .sl (.int .u64)]), .bool] pdPlacesF), (32, mkF [.st [.bool, .sl (.int .u64), .sl (.int .u64), .bool, .sl (.int .u64), .sl (.int .u64)]] [.st [.bool, .sl (.int .u64), .sl (.int .u64)]] pdSquareF), (31, mkF [.st [.bool, .sl (.int .u64), .sl (.int .u64), .bool, .sl (.int .u64), .sl (.int .u64)], .st [.bool, .sl (.int .u64), .sl (.int .u64), .bool, .sl (.int .u64), .sl (.int .u64)]] [.st [.bool, .sl (.int .u64), .sl (.int .u64), .bool, .sl (.int .u64), .sl (.int .u64)]] pdLessF), (38, mkF [.st [.bool, .sl (.int .u64), .sl (.int .u64)], .st [.bool, .sl (.int .u64), .sl (.int .u64)]] [.int .i64] pdCompareF)] Try.f16 [8, 9] [.int .i64, .int .i64]
theorem pdNearer_s0 (r : Rec (dens [.int .i64, .int .i64])) (a : List AV) (b : List AV) (c : List AV) (d : List AV) : evT pdNearer_E pdNearer_h r 3000 false [.code (bodyOf Try.f16)] (T0 0 [.agg (etaL [.int .u64, .int .u64] 0 a), .agg (etaL [.int .u64, .int .u64] 0 b), .agg (etaL [.int .u64, .int .u64] 0 c), .agg (etaL [.int .u64, .int .u64] 0 d)]) [] = pdNearer_b0  a b c d := by kernel_rfl
theorem pdNearer_ev (k : Nat) (a : List AV) (b : List AV) (c : List AV) (d : List AV) : evM pdNearer_E pdNearer_h 3000 k [.code (bodyOf Try.f16)] (T0 0 [.agg (etaL [.int .u64, .int .u64] 0 a), .agg (etaL [.int .u64, .int .u64] 0 b), .agg (etaL [.int .u64, .int .u64] 0 c), .agg (etaL [.int .u64, .int .u64] 0 d)]) [] = pdNearer_b0  a b c d := by
  exact pdNearer_s0 _ a b c d

/-! ### plumb/pred.Order -/
def pdOrd_h : Nat → Option Head := hintOf []
def pdOrd_b0  (a : List AV) (b : List AV) : Option (Int × Int) :=
  Option.bind
  (pdPlacesF
    [AV.agg [AV.int .u64 (AV.toInt (aget a 0)), AV.int .u64 (AV.toInt (aget a 1))],
      AV.agg [AV.int .u64 (AV.toInt (aget b 0)), AV.int .u64 (AV.toInt (aget b 1))]])
  fun t =>
  bif !t.2 then some ((0 : Int), (220 : Int))
  else
    bif inRange (0 : Int) (List.length t.1) then
      bif inRange (1 : Int) (List.length t.1) then
        Option.bind
          (pdOrderF
            ([AV.bool (AV.toBool (aget (AV.flds (aget t.1 0)) 0)), AV.ints .u64 (AV.asInts (aget (AV.flds (aget t.1 0)) 1)),
                AV.ints .u64 (AV.asInts (aget (AV.flds (aget t.1 0)) 2)), AV.bool (AV.toBool (aget (AV.flds (aget t.1 0)) 3)),
                AV.ints .u64 (AV.asInts (aget (AV.flds (aget t.1 0)) 4)), AV.ints .u64 (AV.asInts (aget (AV.flds (aget t.1 0)) 5))],
              [AV.bool (AV.toBool (aget (AV.flds (aget t.1 1)) 0)), AV.ints .u64 (AV.asInts (aget (AV.flds (aget t.1 1)) 1)),
                AV.ints .u64 (AV.asInts (aget (AV.flds (aget t.1 1)) 2)), AV.bool (AV.toBool (aget (AV.flds (aget t.1 1)) 3)),
                AV.ints .u64 (AV.asInts (aget (AV.flds (aget t.1 1)) 4)), AV.ints .u64 (AV.asInts (aget (AV.flds (aget t.1 1)) 5))]))
          fun t => some (t, (0 : Int))
      else none
    else none
noncomputable def pdOrd_E : Env (dens [.int .i64, .int .i64]) := envOf S.tab [(29, mkF [.sl (.st [.int .u64, .int .u64])] [.sl (.st [.bool, .sl (.int .u64), .sl (.int .u64), .bool, .sl (.int .u64), .sl (.int .u64)]), .bool] pdPlacesF), (39, mkF [.st [.bool, .sl (.int .u64), .sl (.int .u64), .bool, .sl (.int .u64), .sl (.int .u64)], .st [.bool, .sl (.int .u64), .sl (.int .u64), .bool, .sl (.int .u64), .sl (.int .u64)]] [.int .i64] pdOrderF)] Try.f17 [4, 5] [.int .i64, .int .i64]
theorem pdOrd_s0 (r : Rec (dens [.int .i64, .int .i64])) (a : List AV) (b : List AV) : evT pdOrd_E pdOrd_h r 3000 false [.code (bodyOf Try.f17)] (T0 0 [.agg (etaL [.int .u64, .int .u64] 0 a), .agg (etaL [.int .u64, .int .u64] 0 b)]) [] = pdOrd_b0  a b := by kernel_rfl
theorem pdOrd_ev (k : Nat) (a : List AV) (b : List AV) : evM pdOrd_E pdOrd_h 3000 k [.code (bodyOf Try.f17)] (T0 0 [.agg (etaL [.int .u64, .int .u64] 0 a), .agg (etaL [.int .u64, .int .u64] 0 b)]) [] = pdOrd_b0  a b := by
  exact pdOrd_s0 _ a b

/-! ### plumb/pred.Area2 -/
def pdArea2_h : Nat → Option Head := hintOf []
def pdArea2_b0  (a : List AV) (b : List AV) (c : List AV) : Option (List AV × Int) :=
  Option.bind
  (pdPlacesF
    [AV.agg [AV.int .u64 (AV.toInt (aget a 0)), AV.int .u64 (AV.toInt (aget a 1))],
      AV.agg [AV.int .u64 (AV.toInt (aget b 0)), AV.int .u64 (AV.toInt (aget b 1))],
      AV.agg [AV.int .u64 (AV.toInt (aget c 0)), AV.int .u64 (AV.toInt (aget c 1))]])
  fun t =>
  bif !t.2 then some ([AV.bool false, AV.ints .u64 [], AV.ints .u64 []], (220 : Int))
  else
    bif inRange (0 : Int) (List.length t.1) then
      bif inRange (1 : Int) (List.length t.1) then
        bif inRange (2 : Int) (List.length t.1) then
          Option.bind
            (pdAreaF
              ([AV.bool (AV.toBool (aget (AV.flds (aget t.1 0)) 0)), AV.ints .u64 (AV.asInts (aget (AV.flds (aget t.1 0)) 1)),
                  AV.ints .u64 (AV.asInts (aget (AV.flds (aget t.1 0)) 2)), AV.bool (AV.toBool (aget (AV.flds (aget t.1 0)) 3)),
                  AV.ints .u64 (AV.asInts (aget (AV.flds (aget t.1 0)) 4)), AV.ints .u64 (AV.asInts (aget (AV.flds (aget t.1 0)) 5))],
                [AV.bool (AV.toBool (aget (AV.flds (aget t.1 1)) 0)), AV.ints .u64 (AV.asInts (aget (AV.flds (aget t.1 1)) 1)),
                  AV.ints .u64 (AV.asInts (aget (AV.flds (aget t.1 1)) 2)), AV.bool (AV.toBool (aget (AV.flds (aget t.1 1)) 3)),
                  AV.ints .u64 (AV.asInts (aget (AV.flds (aget t.1 1)) 4)), AV.ints .u64 (AV.asInts (aget (AV.flds (aget t.1 1)) 5))],
                [AV.bool (AV.toBool (aget (AV.flds (aget t.1 2)) 0)), AV.ints .u64 (AV.asInts (aget (AV.flds (aget t.1 2)) 1)),
                  AV.ints .u64 (AV.asInts (aget (AV.flds (aget t.1 2)) 2)), AV.bool (AV.toBool (aget (AV.flds (aget t.1 2)) 3)),
                  AV.ints .u64 (AV.asInts (aget (AV.flds (aget t.1 2)) 4)), AV.ints .u64 (AV.asInts (aget (AV.flds (aget t.1 2)) 5))]))
            fun t => some ([AV.bool (AV.toBool (aget t 0)), AV.ints .u64 (AV.asInts (aget t 1)), AV.ints .u64 (AV.asInts (aget t 2))], (0 : Int))
        else none
      else none
    else none
noncomputable def pdArea2_E : Env (dens [.st [.bool, .sl (.int .u64), .sl (.int .u64)], .int .i64]) := envR S.tab [(29, mkF [.sl (.st [.int .u64, .int .u64])] [.sl (.st [.bool, .sl (.int .u64), .sl (.int .u64), .bool, .sl (.int .u64), .sl (.int .u64)]), .bool] pdPlacesF), (30, mkF [.st [.bool, .sl (.int .u64), .sl (.int .u64), .bool, .sl (.int .u64), .sl (.int .u64)], .st [.bool, .sl (.int .u64), .sl (.int .u64), .bool, .sl (.int .u64), .sl (.int .u64)], .st [.bool, .sl (.int .u64), .sl (.int .u64), .bool, .sl (.int .u64), .sl (.int .u64)]] [.st [.bool, .sl (.int .u64), .sl (.int .u64)]] pdAreaF)] Try.f14 [.cell 6 36, .tmp 7] [.st [.bool, .sl (.int .u64), .sl (.int .u64)], .int .i64]
theorem pdArea2_s0 (r : Rec (dens [.st [.bool, .sl (.int .u64), .sl (.int .u64)], .int .i64])) (a : List AV) (b : List AV) (c : List AV) : evT pdArea2_E pdArea2_h r 3000 false [.code (bodyOf Try.f14)] (T0 0 [.agg (etaL [.int .u64, .int .u64] 0 a), .agg (etaL [.int .u64, .int .u64] 0 b), .agg (etaL [.int .u64, .int .u64] 0 c)]) [] = pdArea2_b0  a b c := by kernel_rfl
theorem pdArea2_ev (k : Nat) (a : List AV) (b : List AV) (c : List AV) : evM pdArea2_E pdArea2_h 3000 k [.code (bodyOf Try.f14)] (T0 0 [.agg (etaL [.int .u64, .int .u64] 0 a), .agg (etaL [.int .u64, .int .u64] 0 b), .agg (etaL [.int .u64, .int .u64] 0 c)]) [] = pdArea2_b0  a b c := by
  exact pdArea2_s0 _ a b c

/-! ### plumb/plumblaw22.num -/
def num22_h : Nat → Option Head := hintOf []
def num22_b0  (a : Int) : Option (Int) :=
  some a
noncomputable def num22_E : Env (dens [.int .i64]) := envOf S.tab [] Try.f13 [2] [.int .i64]
theorem num22_s0 (r : Rec (dens [.int .i64])) (a : Int) : evT num22_E num22_h r 3000 false [.code (bodyOf Try.f13)] (T0 0 [.int .i64 a]) [] = num22_b0  a := by kernel_rfl
theorem num22_ev (k : Nat) (a : Int) : evM num22_E num22_h 3000 k [.code (bodyOf Try.f13)] (T0 0 [.int .i64 a]) [] = num22_b0  a := by
  exact num22_s0 _ a

/-! ### plumb/plumblaw22.finite -/
def fin22_h : Nat → Option Head := hintOf [(4, ⟨[(0, .same), (3, .same)], 0⟩)]
def fin22_b0 (l4 : List AV → Int → Option Bool) (a : List AV) : Option (Bool) :=
  l4 a (0 : Int)
def fin22_b4 (l4 : List AV → Int → Option Bool) (t0 : List AV) (t3 : Int) : Option (Bool) :=
  bif decide (t3 < (↑(List.length t0) : Int)) then
  bif inRange t3 (List.length t0) then
    bif decide (andI .u64 (shrI .u64 (AV.toInt (aget (AV.flds (aget t0 (Int.toNat t3))) 0)) (52 : Int)) (2047 : Int) = (2047 : Int)) then some false
    else
      bif inRange t3 (List.length t0) then
        bif decide (andI .u64 (shrI .u64 (AV.toInt (aget (AV.flds (aget t0 (Int.toNat t3))) 1)) (52 : Int)) (2047 : Int) = (2047 : Int)) then some false
        else l4 t0 (addI .i64 t3 (1 : Int))
      else none
  else none
else some true
mutual
def fin22_L4 : Nat → (List AV) → Int → Option (Bool)
  | 0, _, _ => none
  | k + 1, t0, t3 => fin22_b4 (fin22_L4 k) t0 t3
end
noncomputable def fin22_E : Env (dens [.bool]) := envOf S.tab [] Try.f12 [2] [.bool]
theorem fin22_s0 (r : Rec (dens [.bool])) (a : List AV) : evT fin22_E fin22_h r 3000 false [.code (bodyOf Try.f12)] (T0 0 [.list (.st [.int .u64, .int .u64]) a]) [] = fin22_b0 (fun t0 t3 => r (todoOf 4 (bodyOf Try.f12)) [(0, AV.list (ETy.st [ETy.int .u64, ETy.int .u64]) t0), (3, AV.int .i64 t3)] []) a := by kernel_rfl
theorem fin22_s4 (r : Rec (dens [.bool])) (t0 : List AV) (t3 : Int) : evT fin22_E fin22_h r 3000 true (todoOf 4 (bodyOf Try.f12)) [(0, AV.list (ETy.st [ETy.int .u64, ETy.int .u64]) t0), (3, AV.int .i64 t3)] [] = fin22_b4 (fun t0 t3 => r (todoOf 4 (bodyOf Try.f12)) [(0, AV.list (ETy.st [ETy.int .u64, ETy.int .u64]) t0), (3, AV.int .i64 t3)] []) t0 t3 := by kernel_rfl
theorem fin22_k : ∀ k, (∀ (t0 : List AV) (t3 : Int), evK fin22_E fin22_h 3000 k (todoOf 4 (bodyOf Try.f12)) [(0, AV.list (ETy.st [ETy.int .u64, ETy.int .u64]) t0), (3, AV.int .i64 t3)] [] = fin22_L4 k t0 t3)
  | 0 => by
    refine ?_ <;> intros <;> rfl
  | k + 1 => by
    have ih := fin22_k k
    refine ?_ <;> intros
    · exact ((fin22_s4 _ _ _).trans (by simp only [ih] <;> rfl))
theorem fin22_ev (k : Nat) (a : List AV) : evM fin22_E fin22_h 3000 k [.code (bodyOf Try.f12)] (T0 0 [.list (.st [.int .u64, .int .u64]) a]) [] = fin22_b0 (fin22_L4 k) a := by
  refine (fin22_s0 _ a).trans ?_
  simp only [fin22_k k] <;> rfl

/-! ### plumb/plumblaw22.fixed -/
def fixed_h : Nat → Option Head := hintOf []
def fixed_b0   : Option (Bool) :=
  Option.bind
  (pdOrientF
    ([AV.int .u64 (0 : Int), AV.int .u64 (0 : Int)], [AV.int .u64 (4607182418800017408 : Int), AV.int .u64 (0 : Int)],
      [AV.int .u64 (0 : Int), AV.int .u64 (4607182418800017408 : Int)]))
  fun t =>
  Option.bind
    (pdInCircleF
      ([AV.int .u64 (0 : Int), AV.int .u64 (0 : Int)], [AV.int .u64 (4607182418800017408 : Int), AV.int .u64 (0 : Int)],
        [AV.int .u64 (0 : Int), AV.int .u64 (4607182418800017408 : Int)], [AV.int .u64 (4602678819172646912 : Int), AV.int .u64 (4602678819172646912 : Int)]))
    fun t_1 =>
    Option.bind (pdOrdF ([AV.int .u64 (0 : Int), AV.int .u64 (0 : Int)], [AV.int .u64 (9218868437227405312 : Int), AV.int .u64 (0 : Int)])) fun t_2 =>
      Option.bind (num22F t.2) fun t_3 =>
        bif decide (t_3 = (0 : Int)) then
          bif decide (t.1 = (1 : Int)) then
            Option.bind (num22F t_1.2) fun t =>
              bif decide (t = (0 : Int)) then bif decide (t_1.1 = (1 : Int)) then Option.bind (num22F t_2.2) fun t => some (decide (t = (220 : Int))) else some false else some false
          else some false
        else some false
noncomputable def fixed_E : Env (dens [.bool]) := envOf S.tab [(10, mkF [.st [.int .u64, .int .u64], .st [.int .u64, .int .u64], .st [.int .u64, .int .u64]] [.int .i64, .int .i64] pdOrientF), (11, mkF [.st [.int .u64, .int .u64], .st [.int .u64, .int .u64], .st [.int .u64, .int .u64], .st [.int .u64, .int .u64]] [.int .i64, .int .i64] pdInCircleF), (17, mkF [.st [.int .u64, .int .u64], .st [.int .u64, .int .u64]] [.int .i64, .int .i64] pdOrdF), (13, mkF [.int .i64] [.int .i64] num22F)] Try.f9 [0] [.bool]
theorem fixed_s0 (r : Rec (dens [.bool]))  : evT fixed_E fixed_h r 3000 false [.code (bodyOf Try.f9)] (T0 0 []) [] = fixed_b0   := by kernel_rfl
theorem fixed_ev (k : Nat)  : evM fixed_E fixed_h 3000 k [.code (bodyOf Try.f9)] (T0 0 []) [] = fixed_b0   := by
  exact fixed_s0 _ 

/-! ### plumb/plumblaw22.PredTurns -/
def PredTurns_h : Nat → Option Head := hintOf []
def PredTurns_b0  (a : List AV) : Option (Bool) :=
  Option.bind (fixedF PUnit.unit) fun t =>
  bif !t then some false
  else
    Option.bind
      (pdOrientF
        ([AV.int .u64 (AV.toInt (aget a 0)), AV.int .u64 (AV.toInt (aget a 1))],
          [AV.int .u64 (AV.toInt (aget a 2)), AV.int .u64 (AV.toInt (aget a 3))],
          [AV.int .u64 (AV.toInt (aget a 4)), AV.int .u64 (AV.toInt (aget a 5))]))
      fun t =>
      Option.bind
        (pdInCircleF
          ([AV.int .u64 (AV.toInt (aget a 0)), AV.int .u64 (AV.toInt (aget a 1))],
            [AV.int .u64 (AV.toInt (aget a 2)), AV.int .u64 (AV.toInt (aget a 3))],
            [AV.int .u64 (AV.toInt (aget a 4)), AV.int .u64 (AV.toInt (aget a 5))],
            [AV.int .u64 (AV.toInt (aget a 6)), AV.int .u64 (AV.toInt (aget a 7))]))
        fun t_1 =>
        Option.bind
          (fin22F
            [AV.agg [AV.int .u64 (AV.toInt (aget a 0)), AV.int .u64 (AV.toInt (aget a 1))],
              AV.agg [AV.int .u64 (AV.toInt (aget a 2)), AV.int .u64 (AV.toInt (aget a 3))],
              AV.agg [AV.int .u64 (AV.toInt (aget a 4)), AV.int .u64 (AV.toInt (aget a 5))]])
          fun t_2 =>
          bif !t_2 then
            Option.bind (num22F t.2) fun t_3 =>
              bif decide (t_3 = (220 : Int)) then
                Option.bind (num22F t_1.2) fun t_4 => bif decide (t_4 = (220 : Int)) then bif decide (t.1 = (0 : Int)) then some (decide (t_1.1 = (0 : Int))) else some false else some false
              else some false
          else
            Option.bind
              (pdOrientF
                ([AV.int .u64 (AV.toInt (aget a 2)), AV.int .u64 (AV.toInt (aget a 3))],
                  [AV.int .u64 (AV.toInt (aget a 4)), AV.int .u64 (AV.toInt (aget a 5))],
                  [AV.int .u64 (AV.toInt (aget a 0)), AV.int .u64 (AV.toInt (aget a 1))]))
              fun t_3 =>
              Option.bind
                (pdOrientF
                  ([AV.int .u64 (AV.toInt (aget a 2)), AV.int .u64 (AV.toInt (aget a 3))],
                    [AV.int .u64 (AV.toInt (aget a 0)), AV.int .u64 (AV.toInt (aget a 1))],
                    [AV.int .u64 (AV.toInt (aget a 4)), AV.int .u64 (AV.toInt (aget a 5))]))
                fun t_4 =>
                Option.bind
                  (pdOrientF
                    ([AV.int .u64 (AV.toInt (aget a 0)), AV.int .u64 (AV.toInt (aget a 1))],
                      [AV.int .u64 (AV.toInt (aget a 2)), AV.int .u64 (AV.toInt (aget a 3))],
                      [AV.int .u64 (AV.toInt (aget a 0)), AV.int .u64 (AV.toInt (aget a 1))]))
                  fun t_5 =>
                  Option.bind
                    (pdArea2F
                      ([AV.int .u64 (AV.toInt (aget a 0)), AV.int .u64 (AV.toInt (aget a 1))],
                        [AV.int .u64 (AV.toInt (aget a 2)), AV.int .u64 (AV.toInt (aget a 3))],
                        [AV.int .u64 (AV.toInt (aget a 4)), AV.int .u64 (AV.toInt (aget a 5))]))
                    fun t_6 =>
                    Option.bind (num22F t.2) fun t_7 =>
                      bif !decide (t_7 = (0 : Int)) then some false
                      else
                        Option.bind (num22F t_3.2) fun t_8 =>
                          bif !decide (t_8 = (0 : Int)) then some false
                          else
                            Option.bind (num22F t_4.2) fun t_9 =>
                              bif !decide (t_9 = (0 : Int)) then some false
                              else
                                Option.bind (num22F t_5.2) fun t_10 =>
                                  bif !decide (t_10 = (0 : Int)) then some false
                                  else
                                    Option.bind (num22F t_6.2) fun t_11 =>
                                      bif !decide (t_11 = (0 : Int)) then some false
                                      else
                                        bif decide (t.1 < (-1 : Int)) then some false
                                        else
                                          bif decide (t.1 > (1 : Int)) then some false
                                          else
                                            bif !decide (t_3.1 = t.1) then some false
                                            else
                                              bif !decide (t_4.1 = subI .i64 (0 : Int) t.1) then some false
                                              else
                                                bif !decide (t_5.1 = (0 : Int)) then some false
                                                else
                                                  Option.bind
                                                    (raSignF
                                                      [AV.bool (AV.toBool (aget t_6.1 0)), AV.ints .u64 (AV.asInts (aget t_6.1 1)),
                                                        AV.ints .u64 (AV.asInts (aget t_6.1 2))])
                                                    fun t_12 =>
                                                    bif !decide (t_12 = t.1) then some false
                                                    else
                                                      Option.bind (fin22F [AV.agg [AV.int .u64 (AV.toInt (aget a 6)), AV.int .u64 (AV.toInt (aget a 7))]]) fun t =>
                                                        bif !t then Option.bind (num22F t_1.2) fun t => bif decide (t = (220 : Int)) then some (decide (t_1.1 = (0 : Int))) else some false
                                                        else
                                                          Option.bind
                                                            (pdInCircleF
                                                              ([AV.int .u64 (AV.toInt (aget a 2)), AV.int .u64 (AV.toInt (aget a 3))],
                                                                [AV.int .u64 (AV.toInt (aget a 4)), AV.int .u64 (AV.toInt (aget a 5))],
                                                                [AV.int .u64 (AV.toInt (aget a 0)), AV.int .u64 (AV.toInt (aget a 1))],
                                                                [AV.int .u64 (AV.toInt (aget a 6)), AV.int .u64 (AV.toInt (aget a 7))]))
                                                            fun t =>
                                                            Option.bind
                                                              (pdInCircleF
                                                                ([AV.int .u64 (AV.toInt (aget a 4)), AV.int .u64 (AV.toInt (aget a 5))],
                                                                  [AV.int .u64 (AV.toInt (aget a 2)), AV.int .u64 (AV.toInt (aget a 3))],
                                                                  [AV.int .u64 (AV.toInt (aget a 0)), AV.int .u64 (AV.toInt (aget a 1))],
                                                                  [AV.int .u64 (AV.toInt (aget a 6)), AV.int .u64 (AV.toInt (aget a 7))]))
                                                              fun t_13 =>
                                                              Option.bind
                                                                (pdInCircleF
                                                                  ([AV.int .u64 (AV.toInt (aget a 6)), AV.int .u64 (AV.toInt (aget a 7))],
                                                                    [AV.int .u64 (AV.toInt (aget a 2)), AV.int .u64 (AV.toInt (aget a 3))],
                                                                    [AV.int .u64 (AV.toInt (aget a 4)), AV.int .u64 (AV.toInt (aget a 5))],
                                                                    [AV.int .u64 (AV.toInt (aget a 0)), AV.int .u64 (AV.toInt (aget a 1))]))
                                                                fun t_14 =>
                                                                Option.bind
                                                                  (pdInCircleF
                                                                    ([AV.int .u64 (AV.toInt (aget a 0)), AV.int .u64 (AV.toInt (aget a 1))],
                                                                      [AV.int .u64 (AV.toInt (aget a 2)), AV.int .u64 (AV.toInt (aget a 3))],
                                                                      [AV.int .u64 (AV.toInt (aget a 4)), AV.int .u64 (AV.toInt (aget a 5))],
                                                                      [AV.int .u64 (AV.toInt (aget a 2)), AV.int .u64 (AV.toInt (aget a 3))]))
                                                                  fun t_15 =>
                                                                  Option.bind (num22F t_1.2) fun t_16 =>
                                                                    bif decide (t_16 = (0 : Int)) then
                                                                      Option.bind (num22F t.2) fun t_17 =>
                                                                        bif decide (t_17 = (0 : Int)) then
                                                                          Option.bind (num22F t_13.2) fun t_18 =>
                                                                            bif decide (t_18 = (0 : Int)) then
                                                                              Option.bind (num22F t_14.2) fun t_19 =>
                                                                                bif decide (t_19 = (0 : Int)) then
                                                                                  Option.bind (num22F t_15.2) fun t_20 =>
                                                                                    bif decide (t_20 = (0 : Int)) then
                                                                                      bif decide (t_1.1 ≥ (-1 : Int)) then
                                                                                        bif decide (t_1.1 ≤ (1 : Int)) then
                                                                                          bif decide (t.1 = t_1.1) then
                                                                                            bif decide (t_13.1 = subI .i64 (0 : Int) t_1.1) then
                                                                                              bif decide (t_14.1 = subI .i64 (0 : Int) t_1.1) then some (decide (t_15.1 = (0 : Int)))
                                                                                              else some false
                                                                                            else some false
                                                                                          else some false
                                                                                        else some false
                                                                                      else some false
                                                                                    else some false
                                                                                else some false
                                                                            else some false
                                                                        else some false
                                                                    else some false
noncomputable def PredTurns_E : Env (dens [.bool]) := envOf S.tab [(9, mkF [] [.bool] fixedF), (10, mkF [.st [.int .u64, .int .u64], .st [.int .u64, .int .u64], .st [.int .u64, .int .u64]] [.int .i64, .int .i64] pdOrientF), (11, mkF [.st [.int .u64, .int .u64], .st [.int .u64, .int .u64], .st [.int .u64, .int .u64], .st [.int .u64, .int .u64]] [.int .i64, .int .i64] pdInCircleF), (12, mkF [.sl (.st [.int .u64, .int .u64])] [.bool] fin22F), (13, mkF [.int .i64] [.int .i64] num22F), (14, mkF [.st [.int .u64, .int .u64], .st [.int .u64, .int .u64], .st [.int .u64, .int .u64]] [.st [.bool, .sl (.int .u64), .sl (.int .u64)], .int .i64] pdArea2F), (15, mkF [.st [.bool, .sl (.int .u64), .sl (.int .u64)]] [.int .i64] raSignF)] Try.f3 [2] [.bool]
theorem PredTurns_s0 (r : Rec (dens [.bool])) (a : List AV) : evT PredTurns_E PredTurns_h r 3000 false [.code (bodyOf Try.f3)] (T0 0 [.agg (etaL [.int .u64, .int .u64, .int .u64, .int .u64, .int .u64, .int .u64, .int .u64, .int .u64] 0 a)]) [] = PredTurns_b0  a := by kernel_rfl
theorem PredTurns_ev (k : Nat) (a : List AV) : evM PredTurns_E PredTurns_h 3000 k [.code (bodyOf Try.f3)] (T0 0 [.agg (etaL [.int .u64, .int .u64, .int .u64, .int .u64, .int .u64, .int .u64, .int .u64, .int .u64] 0 a)]) [] = PredTurns_b0  a := by
  exact PredTurns_s0 _ a

/-! ### plumb/plumblaw22.PredSteps -/
def PredSteps_h : Nat → Option Head := hintOf []
def PredSteps_b0  (a : Int) : Option (Bool) :=
  Option.bind (fixedF PUnit.unit) fun t =>
  bif !t then some false
  else
    bif decide (andI .u64 (shrI .u64 (andNotI .u64 a (9223372036854775808 : Int)) (52 : Int)) (2047 : Int) = (2047 : Int)) then some true
    else
      bif decide (andNotI .u64 a (9223372036854775808 : Int) = (0 : Int)) then some true
      else
        Option.bind
          (pdOrientF
            ([AV.int .u64 (0 : Int), AV.int .u64 (0 : Int)],
              [AV.int .u64 (andNotI .u64 a (9223372036854775808 : Int)), AV.int .u64 (andNotI .u64 a (9223372036854775808 : Int))],
              [AV.int .u64 (subI .u64 (andNotI .u64 a (9223372036854775808 : Int)) (1 : Int)), AV.int .u64 (andNotI .u64 a (9223372036854775808 : Int))]))
          fun t =>
          Option.bind
            (pdOrientF
              ([AV.int .u64 (0 : Int), AV.int .u64 (0 : Int)],
                [AV.int .u64 (andNotI .u64 a (9223372036854775808 : Int)), AV.int .u64 (andNotI .u64 a (9223372036854775808 : Int))],
                [AV.int .u64 (andNotI .u64 a (9223372036854775808 : Int)), AV.int .u64 (subI .u64 (andNotI .u64 a (9223372036854775808 : Int)) (1 : Int))]))
            fun t_1 =>
            Option.bind
              (pdNearerF
                ([AV.int .u64 (0 : Int), AV.int .u64 (0 : Int)],
                  [AV.int .u64 (subI .u64 (andNotI .u64 a (9223372036854775808 : Int)) (1 : Int)), AV.int .u64 (andNotI .u64 a (9223372036854775808 : Int))],
                  [AV.int .u64 (0 : Int), AV.int .u64 (0 : Int)],
                  [AV.int .u64 (andNotI .u64 a (9223372036854775808 : Int)), AV.int .u64 (andNotI .u64 a (9223372036854775808 : Int))]))
              fun t_2 =>
              Option.bind
                (pdNearerF
                  ([AV.int .u64 (0 : Int), AV.int .u64 (0 : Int)],
                    [AV.int .u64 (subI .u64 (andNotI .u64 a (9223372036854775808 : Int)) (1 : Int)), AV.int .u64 (andNotI .u64 a (9223372036854775808 : Int))],
                    [AV.int .u64 (0 : Int), AV.int .u64 (0 : Int)],
                    [AV.int .u64 (andNotI .u64 a (9223372036854775808 : Int)), AV.int .u64 (subI .u64 (andNotI .u64 a (9223372036854775808 : Int)) (1 : Int))]))
                fun t_3 =>
                Option.bind
                  (pdOrdF
                    ([AV.int .u64 (subI .u64 (andNotI .u64 a (9223372036854775808 : Int)) (1 : Int)), AV.int .u64 (andNotI .u64 a (9223372036854775808 : Int))],
                      [AV.int .u64 (andNotI .u64 a (9223372036854775808 : Int)), AV.int .u64 (andNotI .u64 a (9223372036854775808 : Int))]))
                  fun t_4 =>
                  Option.bind
                    (pdOrdF
                      ([AV.int .u64 (andNotI .u64 a (9223372036854775808 : Int)), AV.int .u64 (subI .u64 (andNotI .u64 a (9223372036854775808 : Int)) (1 : Int))],
                        [AV.int .u64 (andNotI .u64 a (9223372036854775808 : Int)), AV.int .u64 (andNotI .u64 a (9223372036854775808 : Int))]))
                    fun t_5 =>
                    Option.bind
                      (pdBetweenF
                        ([AV.int .u64 (0 : Int), AV.int .u64 (0 : Int)],
                          [AV.int .u64 (andNotI .u64 a (9223372036854775808 : Int)), AV.int .u64 (andNotI .u64 a (9223372036854775808 : Int))],
                          [AV.int .u64 (subI .u64 (andNotI .u64 a (9223372036854775808 : Int)) (1 : Int)),
                            AV.int .u64 (andNotI .u64 a (9223372036854775808 : Int))]))
                      fun t_6 =>
                      Option.bind
                        (pdBetweenF
                          ([AV.int .u64 (0 : Int), AV.int .u64 (0 : Int)],
                            [AV.int .u64 (andNotI .u64 a (9223372036854775808 : Int)), AV.int .u64 (andNotI .u64 a (9223372036854775808 : Int))],
                            [AV.int .u64 (andNotI .u64 a (9223372036854775808 : Int)), AV.int .u64 (andNotI .u64 a (9223372036854775808 : Int))]))
                        fun t_7 =>
                        Option.bind
                          (pdInCircleF
                            ([AV.int .u64 (0 : Int), AV.int .u64 (0 : Int)], [AV.int .u64 (andNotI .u64 a (9223372036854775808 : Int)), AV.int .u64 (0 : Int)],
                              [AV.int .u64 (0 : Int), AV.int .u64 (andNotI .u64 a (9223372036854775808 : Int))],
                              [AV.int .u64 (andNotI .u64 a (9223372036854775808 : Int)), AV.int .u64 (andNotI .u64 a (9223372036854775808 : Int))]))
                          fun t_8 =>
                          Option.bind
                            (pdInCircleF
                              ([AV.int .u64 (0 : Int), AV.int .u64 (0 : Int)], [AV.int .u64 (andNotI .u64 a (9223372036854775808 : Int)), AV.int .u64 (0 : Int)],
                                [AV.int .u64 (0 : Int), AV.int .u64 (andNotI .u64 a (9223372036854775808 : Int))],
                                [AV.int .u64 (subI .u64 (andNotI .u64 a (9223372036854775808 : Int)) (1 : Int)),
                                  AV.int .u64 (andNotI .u64 a (9223372036854775808 : Int))]))
                            fun t_9 =>
                            Option.bind (num22F t.2) fun t_10 =>
                              bif !decide (t_10 = (0 : Int)) then some false
                              else
                                Option.bind (num22F t_1.2) fun t_11 =>
                                  bif !decide (t_11 = (0 : Int)) then some false
                                  else
                                    Option.bind (num22F t_2.2) fun t_12 =>
                                      bif !decide (t_12 = (0 : Int)) then some false
                                      else
                                        Option.bind (num22F t_3.2) fun t_13 =>
                                          bif !decide (t_13 = (0 : Int)) then some false
                                          else
                                            Option.bind (num22F t_4.2) fun t_14 =>
                                              bif !decide (t_14 = (0 : Int)) then some false
                                              else
                                                Option.bind (num22F t_5.2) fun t_15 =>
                                                  bif !decide (t_15 = (0 : Int)) then some false
                                                  else
                                                    Option.bind (num22F t_6.2) fun t_16 =>
                                                      bif !decide (t_16 = (0 : Int)) then some false
                                                      else
                                                        Option.bind (num22F t_7.2) fun t_17 =>
                                                          bif !decide (t_17 = (0 : Int)) then some false
                                                          else
                                                            Option.bind (num22F t_8.2) fun t_18 =>
                                                              bif !decide (t_18 = (0 : Int)) then some false
                                                              else
                                                                Option.bind (num22F t_9.2) fun t_19 =>
                                                                  bif !decide (t_19 = (0 : Int)) then some false
                                                                  else
                                                                    bif decide (andNotI .u64 a (9223372036854775808 : Int) = (1 : Int)) then
                                                                      bif decide (t.1 = (1 : Int)) then
                                                                        bif decide (t_1.1 = (-1 : Int)) then
                                                                          bif decide (t_2.1 = (-1 : Int)) then
                                                                            bif decide (t_3.1 = (0 : Int)) then
                                                                              bif decide (t_4.1 = (-1 : Int)) then
                                                                                bif decide (t_5.1 = (-1 : Int)) then
                                                                                  bif !t_6.1 then
                                                                                    bif t_7.1 then bif decide (t_8.1 = (0 : Int)) then some (decide (t_9.1 = (0 : Int))) else some false else some false
                                                                                  else some false
                                                                                else some false
                                                                              else some false
                                                                            else some false
                                                                          else some false
                                                                        else some false
                                                                      else some false
                                                                    else
                                                                      bif decide (t.1 = (1 : Int)) then
                                                                        bif decide (t_1.1 = (-1 : Int)) then
                                                                          bif decide (t_2.1 = (-1 : Int)) then
                                                                            bif decide (t_3.1 = (0 : Int)) then
                                                                              bif decide (t_4.1 = (-1 : Int)) then
                                                                                bif decide (t_5.1 = (-1 : Int)) then
                                                                                  bif !t_6.1 then
                                                                                    bif t_7.1 then bif decide (t_8.1 = (0 : Int)) then some (decide (t_9.1 = (1 : Int))) else some false else some false
                                                                                  else some false
                                                                                else some false
                                                                              else some false
                                                                            else some false
                                                                          else some false
                                                                        else some false
                                                                      else some false
noncomputable def PredSteps_E : Env (dens [.bool]) := envOf S.tab [(9, mkF [] [.bool] fixedF), (10, mkF [.st [.int .u64, .int .u64], .st [.int .u64, .int .u64], .st [.int .u64, .int .u64]] [.int .i64, .int .i64] pdOrientF), (16, mkF [.st [.int .u64, .int .u64], .st [.int .u64, .int .u64], .st [.int .u64, .int .u64], .st [.int .u64, .int .u64]] [.int .i64, .int .i64] pdNearerF), (17, mkF [.st [.int .u64, .int .u64], .st [.int .u64, .int .u64]] [.int .i64, .int .i64] pdOrdF), (18, mkF [.st [.int .u64, .int .u64], .st [.int .u64, .int .u64], .st [.int .u64, .int .u64]] [.bool, .int .i64] pdBetweenF), (11, mkF [.st [.int .u64, .int .u64], .st [.int .u64, .int .u64], .st [.int .u64, .int .u64], .st [.int .u64, .int .u64]] [.int .i64, .int .i64] pdInCircleF), (13, mkF [.int .i64] [.int .i64] num22F)] Try.f4 [2] [.bool]
theorem PredSteps_s0 (r : Rec (dens [.bool])) (a : Int) : evT PredSteps_E PredSteps_h r 3000 false [.code (bodyOf Try.f4)] (T0 0 [.int .u64 a]) [] = PredSteps_b0  a := by kernel_rfl
theorem PredSteps_ev (k : Nat) (a : Int) : evM PredSteps_E PredSteps_h 3000 k [.code (bodyOf Try.f4)] (T0 0 [.int .u64 a]) [] = PredSteps_b0  a := by
  exact PredSteps_s0 _ a

/-! ### plumb/plumblaw22.PredOrders -/
def PredOrders_h : Nat → Option Head := hintOf [(35, ⟨[(1, .same), (9, .same), (11, .same), (13, .same), (15, .same)], 1⟩), (39, ⟨[(1, .same)], 1⟩)]
def PredOrders_b0 (l35 : Int → Int → Int → Bool → List AV → Option Bool) (l39 : List AV → Option Bool) (a : List AV) : Option (Bool) :=
  Option.bind (fixedF PUnit.unit) fun t =>
  bif !t then some false
  else
    Option.bind
      (fin22F
        [AV.agg [AV.int .u64 (AV.toInt (aget a 0)), AV.int .u64 (AV.toInt (aget a 1))],
          AV.agg [AV.int .u64 (AV.toInt (aget a 2)), AV.int .u64 (AV.toInt (aget a 3))],
          AV.agg [AV.int .u64 (AV.toInt (aget a 4)), AV.int .u64 (AV.toInt (aget a 5))],
          AV.agg [AV.int .u64 (AV.toInt (aget a 6)), AV.int .u64 (AV.toInt (aget a 7))]])
      fun t =>
      bif !t then
        Option.bind
          (pdNearerF
            ([AV.int .u64 (AV.toInt (aget a 0)), AV.int .u64 (AV.toInt (aget a 1))],
              [AV.int .u64 (AV.toInt (aget a 2)), AV.int .u64 (AV.toInt (aget a 3))],
              [AV.int .u64 (AV.toInt (aget a 4)), AV.int .u64 (AV.toInt (aget a 5))],
              [AV.int .u64 (AV.toInt (aget a 6)), AV.int .u64 (AV.toInt (aget a 7))]))
          fun t => Option.bind (num22F t.2) fun t => some (decide (t = (220 : Int)))
      else
        Option.bind
          (pdOrdF
            ([AV.int .u64 (AV.toInt (aget a 0)), AV.int .u64 (AV.toInt (aget a 1))],
              [AV.int .u64 (AV.toInt (aget a 2)), AV.int .u64 (AV.toInt (aget a 3))]))
          fun t =>
          Option.bind
            (pdOrdF
              ([AV.int .u64 (AV.toInt (aget a 2)), AV.int .u64 (AV.toInt (aget a 3))],
                [AV.int .u64 (AV.toInt (aget a 0)), AV.int .u64 (AV.toInt (aget a 1))]))
            fun t_1 =>
            Option.bind
              (pdOrdF
                ([AV.int .u64 (AV.toInt (aget a 2)), AV.int .u64 (AV.toInt (aget a 3))],
                  [AV.int .u64 (AV.toInt (aget a 4)), AV.int .u64 (AV.toInt (aget a 5))]))
              fun t_2 =>
              Option.bind
                (pdOrdF
                  ([AV.int .u64 (AV.toInt (aget a 0)), AV.int .u64 (AV.toInt (aget a 1))],
                    [AV.int .u64 (AV.toInt (aget a 4)), AV.int .u64 (AV.toInt (aget a 5))]))
                fun t_3 =>
                Option.bind
                  (pdOrientF
                    ([AV.int .u64 (AV.toInt (aget a 0)), AV.int .u64 (AV.toInt (aget a 1))],
                      [AV.int .u64 (AV.toInt (aget a 2)), AV.int .u64 (AV.toInt (aget a 3))],
                      [AV.int .u64 (AV.toInt (aget a 4)), AV.int .u64 (AV.toInt (aget a 5))]))
                  fun t_4 =>
                  Option.bind
                    (pdBetweenF
                      ([AV.int .u64 (AV.toInt (aget a 0)), AV.int .u64 (AV.toInt (aget a 1))],
                        [AV.int .u64 (AV.toInt (aget a 2)), AV.int .u64 (AV.toInt (aget a 3))],
                        [AV.int .u64 (AV.toInt (aget a 4)), AV.int .u64 (AV.toInt (aget a 5))]))
                    fun t_5 =>
                    Option.bind
                      (pdBetweenF
                        ([AV.int .u64 (AV.toInt (aget a 2)), AV.int .u64 (AV.toInt (aget a 3))],
                          [AV.int .u64 (AV.toInt (aget a 0)), AV.int .u64 (AV.toInt (aget a 1))],
                          [AV.int .u64 (AV.toInt (aget a 4)), AV.int .u64 (AV.toInt (aget a 5))]))
                      fun t_6 =>
                      Option.bind (num22F t.2) fun t_7 =>
                        bif !decide (t_7 = (0 : Int)) then some false
                        else
                          Option.bind (num22F t_1.2) fun t_8 =>
                            bif !decide (t_8 = (0 : Int)) then some false
                            else
                              Option.bind (num22F t_2.2) fun t_9 =>
                                bif !decide (t_9 = (0 : Int)) then some false
                                else
                                  Option.bind (num22F t_3.2) fun t_10 =>
                                    bif !decide (t_10 = (0 : Int)) then some false
                                    else
                                      Option.bind (num22F t_4.2) fun t_11 =>
                                        bif !decide (t_11 = (0 : Int)) then some false
                                        else
                                          Option.bind (num22F t_5.2) fun t_12 =>
                                            bif !decide (t_12 = (0 : Int)) then some false
                                            else
                                              Option.bind (num22F t_6.2) fun t_13 =>
                                                bif !decide (t_13 = (0 : Int)) then some false
                                                else
                                                  bif !decide (t.1 = subI .i64 (0 : Int) t_1.1) then some false
                                                  else
                                                    bif decide (t.1 < (-1 : Int)) then some false
                                                    else
                                                      bif decide (t.1 > (1 : Int)) then some false
                                                      else
                                                        bif !decide (t_5.1 = t_6.1) then some false
                                                        else
                                                          bif decide (t.1 ≤ (0 : Int)) then
                                                            bif decide (t_2.1 ≤ (0 : Int)) then
                                                              bif decide (t_3.1 > (0 : Int)) then some false
                                                              else
                                                                bif decide (t.1 ≥ (0 : Int)) then
                                                                  bif decide (t_2.1 ≥ (0 : Int)) then
                                                                    bif decide (t_3.1 < (0 : Int)) then some false
                                                                    else
                                                                      l35 t_2.1 t_3.1 t_4.1 t_5.1
                                                                        [AV.agg
                                                                            [AV.int .u64 (AV.toInt (aget a 0)), AV.int .u64 (AV.toInt (aget a 1)),
                                                                              AV.int .u64 (AV.toInt (aget a 2)), AV.int .u64 (AV.toInt (aget a 3)),
                                                                              AV.int .u64 (AV.toInt (aget a 4)), AV.int .u64 (AV.toInt (aget a 5)),
                                                                              AV.int .u64 (AV.toInt (aget a 6)), AV.int .u64 (AV.toInt (aget a 7))]]
                                                                  else
                                                                    l35 t_2.1 t_3.1 t_4.1 t_5.1
                                                                      [AV.agg
                                                                          [AV.int .u64 (AV.toInt (aget a 0)), AV.int .u64 (AV.toInt (aget a 1)),
                                                                            AV.int .u64 (AV.toInt (aget a 2)), AV.int .u64 (AV.toInt (aget a 3)),
                                                                            AV.int .u64 (AV.toInt (aget a 4)), AV.int .u64 (AV.toInt (aget a 5)),
                                                                            AV.int .u64 (AV.toInt (aget a 6)), AV.int .u64 (AV.toInt (aget a 7))]]
                                                                else
                                                                  l35 t_2.1 t_3.1 t_4.1 t_5.1
                                                                    [AV.agg
                                                                        [AV.int .u64 (AV.toInt (aget a 0)), AV.int .u64 (AV.toInt (aget a 1)),
                                                                          AV.int .u64 (AV.toInt (aget a 2)), AV.int .u64 (AV.toInt (aget a 3)),
                                                                          AV.int .u64 (AV.toInt (aget a 4)), AV.int .u64 (AV.toInt (aget a 5)),
                                                                          AV.int .u64 (AV.toInt (aget a 6)), AV.int .u64 (AV.toInt (aget a 7))]]
                                                            else
                                                              bif decide (t.1 ≥ (0 : Int)) then
                                                                bif decide (t_2.1 ≥ (0 : Int)) then
                                                                  bif decide (t_3.1 < (0 : Int)) then some false
                                                                  else
                                                                    l35 t_2.1 t_3.1 t_4.1 t_5.1
                                                                      [AV.agg
                                                                          [AV.int .u64 (AV.toInt (aget a 0)), AV.int .u64 (AV.toInt (aget a 1)),
                                                                            AV.int .u64 (AV.toInt (aget a 2)), AV.int .u64 (AV.toInt (aget a 3)),
                                                                            AV.int .u64 (AV.toInt (aget a 4)), AV.int .u64 (AV.toInt (aget a 5)),
                                                                            AV.int .u64 (AV.toInt (aget a 6)), AV.int .u64 (AV.toInt (aget a 7))]]
                                                                else
                                                                  l35 t_2.1 t_3.1 t_4.1 t_5.1
                                                                    [AV.agg
                                                                        [AV.int .u64 (AV.toInt (aget a 0)), AV.int .u64 (AV.toInt (aget a 1)),
                                                                          AV.int .u64 (AV.toInt (aget a 2)), AV.int .u64 (AV.toInt (aget a 3)),
                                                                          AV.int .u64 (AV.toInt (aget a 4)), AV.int .u64 (AV.toInt (aget a 5)),
                                                                          AV.int .u64 (AV.toInt (aget a 6)), AV.int .u64 (AV.toInt (aget a 7))]]
                                                              else
                                                                l35 t_2.1 t_3.1 t_4.1 t_5.1
                                                                  [AV.agg
                                                                      [AV.int .u64 (AV.toInt (aget a 0)), AV.int .u64 (AV.toInt (aget a 1)),
                                                                        AV.int .u64 (AV.toInt (aget a 2)), AV.int .u64 (AV.toInt (aget a 3)),
                                                                        AV.int .u64 (AV.toInt (aget a 4)), AV.int .u64 (AV.toInt (aget a 5)),
                                                                        AV.int .u64 (AV.toInt (aget a 6)), AV.int .u64 (AV.toInt (aget a 7))]]
                                                          else
                                                            bif decide (t.1 ≥ (0 : Int)) then
                                                              bif decide (t_2.1 ≥ (0 : Int)) then
                                                                bif decide (t_3.1 < (0 : Int)) then some false
                                                                else
                                                                  l35 t_2.1 t_3.1 t_4.1 t_5.1
                                                                    [AV.agg
                                                                        [AV.int .u64 (AV.toInt (aget a 0)), AV.int .u64 (AV.toInt (aget a 1)),
                                                                          AV.int .u64 (AV.toInt (aget a 2)), AV.int .u64 (AV.toInt (aget a 3)),
                                                                          AV.int .u64 (AV.toInt (aget a 4)), AV.int .u64 (AV.toInt (aget a 5)),
                                                                          AV.int .u64 (AV.toInt (aget a 6)), AV.int .u64 (AV.toInt (aget a 7))]]
                                                              else
                                                                l35 t_2.1 t_3.1 t_4.1 t_5.1
                                                                  [AV.agg
                                                                      [AV.int .u64 (AV.toInt (aget a 0)), AV.int .u64 (AV.toInt (aget a 1)),
                                                                        AV.int .u64 (AV.toInt (aget a 2)), AV.int .u64 (AV.toInt (aget a 3)),
                                                                        AV.int .u64 (AV.toInt (aget a 4)), AV.int .u64 (AV.toInt (aget a 5)),
                                                                        AV.int .u64 (AV.toInt (aget a 6)), AV.int .u64 (AV.toInt (aget a 7))]]
                                                            else
                                                              l35 t_2.1 t_3.1 t_4.1 t_5.1
                                                                [AV.agg
                                                                    [AV.int .u64 (AV.toInt (aget a 0)), AV.int .u64 (AV.toInt (aget a 1)),
                                                                      AV.int .u64 (AV.toInt (aget a 2)), AV.int .u64 (AV.toInt (aget a 3)),
                                                                      AV.int .u64 (AV.toInt (aget a 4)), AV.int .u64 (AV.toInt (aget a 5)),
                                                                      AV.int .u64 (AV.toInt (aget a 6)), AV.int .u64 (AV.toInt (aget a 7))]]
def PredOrders_b35 (l35 : Int → Int → Int → Bool → List AV → Option Bool) (l39 : List AV → Option Bool) (t9 : Int) (t11 : Int) (t13 : Int) (t15 : Bool) (h0 : List AV) : Option (Bool) :=
  bif decide (t13 = (0 : Int)) then
  bif decide (t11 ≤ (0 : Int)) then
    bif decide (t9 ≥ (0 : Int)) then bif !decide (t15 = true) then some false else l39 h0
    else bif decide (t11 ≥ (0 : Int)) then bif !decide (t15 = decide (t9 ≤ (0 : Int))) then some false else l39 h0 else bif !decide (t15 = false) then some false else l39 h0
  else bif decide (t11 ≥ (0 : Int)) then bif !decide (t15 = decide (t9 ≤ (0 : Int))) then some false else l39 h0 else bif !decide (t15 = false) then some false else l39 h0
else bif !decide (t15 = false) then some false else l39 h0
def PredOrders_b39 (l35 : Int → Int → Int → Bool → List AV → Option Bool) (l39 : List AV → Option Bool) (h0 : List AV) : Option (Bool) :=
  Option.bind
  (pdNearerF
    ([AV.int .u64 (AV.toInt (aget (AV.flds (aget h0 0)) 0)), AV.int .u64 (AV.toInt (aget (AV.flds (aget h0 0)) 1))],
      [AV.int .u64 (AV.toInt (aget (AV.flds (aget h0 0)) 2)), AV.int .u64 (AV.toInt (aget (AV.flds (aget h0 0)) 3))],
      [AV.int .u64 (AV.toInt (aget (AV.flds (aget h0 0)) 4)), AV.int .u64 (AV.toInt (aget (AV.flds (aget h0 0)) 5))],
      [AV.int .u64 (AV.toInt (aget (AV.flds (aget h0 0)) 6)), AV.int .u64 (AV.toInt (aget (AV.flds (aget h0 0)) 7))]))
  fun t =>
  Option.bind
    (pdNearerF
      ([AV.int .u64 (AV.toInt (aget (AV.flds (aget h0 0)) 6)), AV.int .u64 (AV.toInt (aget (AV.flds (aget h0 0)) 7))],
        [AV.int .u64 (AV.toInt (aget (AV.flds (aget h0 0)) 4)), AV.int .u64 (AV.toInt (aget (AV.flds (aget h0 0)) 5))],
        [AV.int .u64 (AV.toInt (aget (AV.flds (aget h0 0)) 0)), AV.int .u64 (AV.toInt (aget (AV.flds (aget h0 0)) 1))],
        [AV.int .u64 (AV.toInt (aget (AV.flds (aget h0 0)) 2)), AV.int .u64 (AV.toInt (aget (AV.flds (aget h0 0)) 3))]))
    fun t_1 =>
    Option.bind
      (pdNearerF
        ([AV.int .u64 (AV.toInt (aget (AV.flds (aget h0 0)) 0)), AV.int .u64 (AV.toInt (aget (AV.flds (aget h0 0)) 1))],
          [AV.int .u64 (AV.toInt (aget (AV.flds (aget h0 0)) 2)), AV.int .u64 (AV.toInt (aget (AV.flds (aget h0 0)) 3))],
          [AV.int .u64 (AV.toInt (aget (AV.flds (aget h0 0)) 2)), AV.int .u64 (AV.toInt (aget (AV.flds (aget h0 0)) 3))],
          [AV.int .u64 (AV.toInt (aget (AV.flds (aget h0 0)) 0)), AV.int .u64 (AV.toInt (aget (AV.flds (aget h0 0)) 1))]))
      fun t_2 =>
      Option.bind
        (pdNearerF
          ([AV.int .u64 (AV.toInt (aget (AV.flds (aget h0 0)) 0)), AV.int .u64 (AV.toInt (aget (AV.flds (aget h0 0)) 1))],
            [AV.int .u64 (AV.toInt (aget (AV.flds (aget h0 0)) 0)), AV.int .u64 (AV.toInt (aget (AV.flds (aget h0 0)) 1))],
            [AV.int .u64 (AV.toInt (aget (AV.flds (aget h0 0)) 4)), AV.int .u64 (AV.toInt (aget (AV.flds (aget h0 0)) 5))],
            [AV.int .u64 (AV.toInt (aget (AV.flds (aget h0 0)) 6)), AV.int .u64 (AV.toInt (aget (AV.flds (aget h0 0)) 7))]))
        fun t_3 =>
        Option.bind
          (pdOrdF
            ([AV.int .u64 (AV.toInt (aget (AV.flds (aget h0 0)) 4)), AV.int .u64 (AV.toInt (aget (AV.flds (aget h0 0)) 5))],
              [AV.int .u64 (AV.toInt (aget (AV.flds (aget h0 0)) 6)), AV.int .u64 (AV.toInt (aget (AV.flds (aget h0 0)) 7))]))
          fun t_4 =>
          Option.bind (num22F t.2) fun t_5 =>
            bif decide (t_5 = (0 : Int)) then
              Option.bind (num22F t_1.2) fun t_6 =>
                bif decide (t_6 = (0 : Int)) then
                  Option.bind (num22F t_2.2) fun t_7 =>
                    bif decide (t_7 = (0 : Int)) then
                      Option.bind (num22F t_3.2) fun t_8 =>
                        bif decide (t_8 = (0 : Int)) then
                          Option.bind (num22F t_4.2) fun t_9 =>
                            bif decide (t_9 = (0 : Int)) then
                              bif decide (t.1 = subI .i64 (0 : Int) t_1.1) then
                                bif decide (t_2.1 = (0 : Int)) then bif decide (decide (t_3.1 = (0 : Int)) = decide (t_4.1 = (0 : Int))) then some (decide (t_3.1 ≤ (0 : Int))) else some false
                                else some false
                              else some false
                            else some false
                        else some false
                    else some false
                else some false
            else some false
mutual
def PredOrders_L35 : Nat → Int → Int → Int → Bool → (List AV) → Option (Bool)
  | 0, _, _, _, _, _ => none
  | k + 1, t9, t11, t13, t15, h0 => PredOrders_b35 (PredOrders_L35 k) (PredOrders_L39 k) t9 t11 t13 t15 h0
def PredOrders_L39 : Nat → (List AV) → Option (Bool)
  | 0, _ => none
  | k + 1, h0 => PredOrders_b39 (PredOrders_L35 k) (PredOrders_L39 k) h0
end
noncomputable def PredOrders_E : Env (dens [.bool]) := envOf S.tab [(9, mkF [] [.bool] fixedF), (12, mkF [.sl (.st [.int .u64, .int .u64])] [.bool] fin22F), (16, mkF [.st [.int .u64, .int .u64], .st [.int .u64, .int .u64], .st [.int .u64, .int .u64], .st [.int .u64, .int .u64]] [.int .i64, .int .i64] pdNearerF), (13, mkF [.int .i64] [.int .i64] num22F), (17, mkF [.st [.int .u64, .int .u64], .st [.int .u64, .int .u64]] [.int .i64, .int .i64] pdOrdF), (10, mkF [.st [.int .u64, .int .u64], .st [.int .u64, .int .u64], .st [.int .u64, .int .u64]] [.int .i64, .int .i64] pdOrientF), (18, mkF [.st [.int .u64, .int .u64], .st [.int .u64, .int .u64], .st [.int .u64, .int .u64]] [.bool, .int .i64] pdBetweenF)] Try.f5 [2] [.bool]
theorem PredOrders_s0 (r : Rec (dens [.bool])) (a : List AV) : evT PredOrders_E PredOrders_h r 3000 false [.code (bodyOf Try.f5)] (T0 0 [.agg (etaL [.int .u64, .int .u64, .int .u64, .int .u64, .int .u64, .int .u64, .int .u64, .int .u64] 0 a)]) [] = PredOrders_b0 (fun t9 t11 t13 t15 h0 => r (todoOf 35 (bodyOf Try.f5)) [(1, AV.ptr 0 8 0 0), (9, AV.int .i64 t9), (11, AV.int .i64 t11), (13, AV.int .i64 t13),
  (15, AV.bool t15)] [Blk.A 26 (ETy.st [ETy.int .u64, ETy.int .u64, ETy.int .u64, ETy.int .u64, ETy.int .u64, ETy.int .u64, ETy.int .u64, ETy.int .u64])
    h0]) (fun h0 => r (todoOf 39 (bodyOf Try.f5)) [(1, AV.ptr 0 8 0 0)] [Blk.A 26 (ETy.st [ETy.int .u64, ETy.int .u64, ETy.int .u64, ETy.int .u64, ETy.int .u64, ETy.int .u64, ETy.int .u64, ETy.int .u64])
    h0]) a := by kernel_rfl
theorem PredOrders_s35 (r : Rec (dens [.bool])) (t9 : Int) (t11 : Int) (t13 : Int) (t15 : Bool) (h0 : List AV) : evT PredOrders_E PredOrders_h r 3000 true (todoOf 35 (bodyOf Try.f5)) [(1, AV.ptr 0 8 0 0), (9, AV.int .i64 t9), (11, AV.int .i64 t11), (13, AV.int .i64 t13),
  (15, AV.bool t15)] [Blk.A 26 (ETy.st [ETy.int .u64, ETy.int .u64, ETy.int .u64, ETy.int .u64, ETy.int .u64, ETy.int .u64, ETy.int .u64, ETy.int .u64])
    h0] = PredOrders_b35 (fun t9 t11 t13 t15 h0 => r (todoOf 35 (bodyOf Try.f5)) [(1, AV.ptr 0 8 0 0), (9, AV.int .i64 t9), (11, AV.int .i64 t11), (13, AV.int .i64 t13),
  (15, AV.bool t15)] [Blk.A 26 (ETy.st [ETy.int .u64, ETy.int .u64, ETy.int .u64, ETy.int .u64, ETy.int .u64, ETy.int .u64, ETy.int .u64, ETy.int .u64])
    h0]) (fun h0 => r (todoOf 39 (bodyOf Try.f5)) [(1, AV.ptr 0 8 0 0)] [Blk.A 26 (ETy.st [ETy.int .u64, ETy.int .u64, ETy.int .u64, ETy.int .u64, ETy.int .u64, ETy.int .u64, ETy.int .u64, ETy.int .u64])
    h0]) t9 t11 t13 t15 h0 := by kernel_rfl
theorem PredOrders_s39 (r : Rec (dens [.bool])) (h0 : List AV) : evT PredOrders_E PredOrders_h r 3000 true (todoOf 39 (bodyOf Try.f5)) [(1, AV.ptr 0 8 0 0)] [Blk.A 26 (ETy.st [ETy.int .u64, ETy.int .u64, ETy.int .u64, ETy.int .u64, ETy.int .u64, ETy.int .u64, ETy.int .u64, ETy.int .u64])
    h0] = PredOrders_b39 (fun t9 t11 t13 t15 h0 => r (todoOf 35 (bodyOf Try.f5)) [(1, AV.ptr 0 8 0 0), (9, AV.int .i64 t9), (11, AV.int .i64 t11), (13, AV.int .i64 t13),
  (15, AV.bool t15)] [Blk.A 26 (ETy.st [ETy.int .u64, ETy.int .u64, ETy.int .u64, ETy.int .u64, ETy.int .u64, ETy.int .u64, ETy.int .u64, ETy.int .u64])
    h0]) (fun h0 => r (todoOf 39 (bodyOf Try.f5)) [(1, AV.ptr 0 8 0 0)] [Blk.A 26 (ETy.st [ETy.int .u64, ETy.int .u64, ETy.int .u64, ETy.int .u64, ETy.int .u64, ETy.int .u64, ETy.int .u64, ETy.int .u64])
    h0]) h0 := by kernel_rfl
theorem PredOrders_k : ∀ k, (∀ (t9 : Int) (t11 : Int) (t13 : Int) (t15 : Bool) (h0 : List AV), evK PredOrders_E PredOrders_h 3000 k (todoOf 35 (bodyOf Try.f5)) [(1, AV.ptr 0 8 0 0), (9, AV.int .i64 t9), (11, AV.int .i64 t11), (13, AV.int .i64 t13),
  (15, AV.bool t15)] [Blk.A 26 (ETy.st [ETy.int .u64, ETy.int .u64, ETy.int .u64, ETy.int .u64, ETy.int .u64, ETy.int .u64, ETy.int .u64, ETy.int .u64])
    h0] = PredOrders_L35 k t9 t11 t13 t15 h0) ∧ (∀ (h0 : List AV), evK PredOrders_E PredOrders_h 3000 k (todoOf 39 (bodyOf Try.f5)) [(1, AV.ptr 0 8 0 0)] [Blk.A 26 (ETy.st [ETy.int .u64, ETy.int .u64, ETy.int .u64, ETy.int .u64, ETy.int .u64, ETy.int .u64, ETy.int .u64, ETy.int .u64])
    h0] = PredOrders_L39 k h0)
  | 0 => by
    refine ⟨?_, ?_⟩ <;> intros <;> rfl
  | k + 1 => by
    have ih := PredOrders_k k
    refine ⟨?_, ?_⟩ <;> intros
    · exact ((PredOrders_s35 _ _ _ _ _ _).trans (by simp only [ih] <;> rfl))
    · exact ((PredOrders_s39 _ _).trans (by simp only [ih] <;> rfl))
theorem PredOrders_ev (k : Nat) (a : List AV) : evM PredOrders_E PredOrders_h 3000 k [.code (bodyOf Try.f5)] (T0 0 [.agg (etaL [.int .u64, .int .u64, .int .u64, .int .u64, .int .u64, .int .u64, .int .u64, .int .u64] 0 a)]) [] = PredOrders_b0 (PredOrders_L35 k) (PredOrders_L39 k) a := by
  refine (PredOrders_s0 _ a).trans ?_
  simp only [PredOrders_k k] <;> rfl

end
end Go.RX.S
