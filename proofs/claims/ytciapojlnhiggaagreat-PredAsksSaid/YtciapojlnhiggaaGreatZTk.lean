/- What functions compute, printed. -/
import Derived.Test.YtciapojlnhiggaaGreatZTj
set_option linter.unusedVariables false
set_option linter.unusedSimpArgs false
namespace Go.RX.S
open Go Go.RX Go.Proofs
noncomputable section
def pdPlus_h : Nat → Option Head := hintOf []
def pdPlus_b0  (a : List AV) : Option (List AV) :=
  some [AV.bool false, AV.list (ETy.st [ETy.bool, ETy.sl (ETy.int .u64), ETy.sl (ETy.int .u64)]) a]
noncomputable def pdPlus_E : Env (dens [.st [.bool, .sl (.st [.bool, .sl (.int .u64), .sl (.int .u64)])]]) := envR S.tab [] Tryz.f36 [.cell 2 78] [.st [.bool, .sl (.st [.bool, .sl (.int .u64), .sl (.int .u64)])]]
theorem pdPlus_s0 (r : Rec (dens [.st [.bool, .sl (.st [.bool, .sl (.int .u64), .sl (.int .u64)])]])) (a : List AV) : evT pdPlus_E pdPlus_h r 3000 false [.code (bodyOf Tryz.f36)] (T0 0 [.list (.st [.bool, .sl (.int .u64), .sl (.int .u64)]) a]) [] = pdPlus_b0  a := by kernel_rfl
theorem pdPlus_ev (k : Nat) (a : List AV) : evM pdPlus_E pdPlus_h 3000 k [.code (bodyOf Tryz.f36)] (T0 0 [.list (.st [.bool, .sl (.int .u64), .sl (.int .u64)]) a]) [] = pdPlus_b0  a := by
  exact pdPlus_s0 _ a
def pdMinus_h : Nat → Option Head := hintOf []
def pdMinus_b0  (a : List AV) : Option (List AV) :=
  some [AV.bool true, AV.list (ETy.st [ETy.bool, ETy.sl (ETy.int .u64), ETy.sl (ETy.int .u64)]) a]
noncomputable def pdMinus_E : Env (dens [.st [.bool, .sl (.st [.bool, .sl (.int .u64), .sl (.int .u64)])]]) := envR S.tab [] Tryz.f37 [.cell 2 78] [.st [.bool, .sl (.st [.bool, .sl (.int .u64), .sl (.int .u64)])]]
theorem pdMinus_s0 (r : Rec (dens [.st [.bool, .sl (.st [.bool, .sl (.int .u64), .sl (.int .u64)])]])) (a : List AV) : evT pdMinus_E pdMinus_h r 3000 false [.code (bodyOf Tryz.f37)] (T0 0 [.list (.st [.bool, .sl (.int .u64), .sl (.int .u64)]) a]) [] = pdMinus_b0  a := by kernel_rfl
theorem pdMinus_ev (k : Nat) (a : List AV) : evM pdMinus_E pdMinus_h 3000 k [.code (bodyOf Tryz.f37)] (T0 0 [.list (.st [.bool, .sl (.int .u64), .sl (.int .u64)]) a]) [] = pdMinus_b0  a := by
  exact pdMinus_s0 _ a
def pdSum_h : Nat → Option Head := hintOf [(6, ⟨[(2, .same), (3, .same), (10, .same), (11, .same), (12, .same)], 2⟩), (14, ⟨[(2, .same), (3, .same), (5, .same), (6, .same), (10, .same), (11, .same), (12, .same), (18, .same), (19, .same), (20, .same)], 4⟩)]
def pdSum_b0 (l6 : List AV → Int → Int → List AV → List AV → Option (List AV)) (l14 : List AV → Int → Int → List AV → Int → Int → List AV → List AV → List AV → List AV → Option (List AV)) (a : List AV) : Option (List AV) :=
  Option.bind (raIntF (0 : Int)) fun t =>
  l6 a (↑(List.length a) : Int) (0 : Int) [AV.agg [AV.bool false, AV.ints .u64 [], AV.ints .u64 []]]
    [AV.agg [AV.bool (AV.toBool (aget t 0)), AV.ints .u64 (AV.asInts (aget t 1)), AV.ints .u64 (AV.asInts (aget t 2))]]
def pdSum_b6 (l6 : List AV → Int → Int → List AV → List AV → Option (List AV)) (l14 : List AV → Int → Int → List AV → Int → Int → List AV → List AV → List AV → List AV → Option (List AV)) (t10 : List AV) (t11 : Int) (t12 : Int) (h0 : List AV) (h1 : List AV) : Option (List AV) :=
  bif decide (t12 < t11) then
  bif inRange t12 (List.length t10) then
    Option.bind (raIntF (1 : Int)) fun t =>
      l14 t10 t11 t12 (AV.asList (aget (AV.flds (aget t10 (Int.toNat t12))) 1)) (↑(List.length (AV.asList (aget (AV.flds (aget t10 (Int.toNat t12))) 1))) : Int) (0 : Int) h0 h1
        [AV.agg
            [AV.bool (AV.toBool (aget (AV.flds (aget t10 (Int.toNat t12))) 0)),
              AV.list (ETy.st [ETy.bool, ETy.sl (ETy.int .u64), ETy.sl (ETy.int .u64)]) (AV.asList (aget (AV.flds (aget t10 (Int.toNat t12))) 1))]]
        [AV.agg [AV.bool (AV.toBool (aget t 0)), AV.ints .u64 (AV.asInts (aget t 1)), AV.ints .u64 (AV.asInts (aget t 2))]]
  else none
else
  some
    [AV.bool
        (AV.toBool
          (aget
            (AV.flds
              (aget
                (List.set h0 0
                  (AV.agg
                    [AV.bool (AV.toBool (aget (AV.flds (aget h1 0)) 0)), AV.ints .u64 (AV.asInts (aget (AV.flds (aget h1 0)) 1)),
                      AV.ints .u64 (AV.asInts (aget (AV.flds (aget h1 0)) 2))]))
                0))
            0)),
      AV.ints .u64
        (AV.asInts
          (aget
            (AV.flds
              (aget
                (List.set h0 0
                  (AV.agg
                    [AV.bool (AV.toBool (aget (AV.flds (aget h1 0)) 0)), AV.ints .u64 (AV.asInts (aget (AV.flds (aget h1 0)) 1)),
                      AV.ints .u64 (AV.asInts (aget (AV.flds (aget h1 0)) 2))]))
                0))
            1)),
      AV.ints .u64
        (AV.asInts
          (aget
            (AV.flds
              (aget
                (List.set h0 0
                  (AV.agg
                    [AV.bool (AV.toBool (aget (AV.flds (aget h1 0)) 0)), AV.ints .u64 (AV.asInts (aget (AV.flds (aget h1 0)) 1)),
                      AV.ints .u64 (AV.asInts (aget (AV.flds (aget h1 0)) 2))]))
                0))
            2))]
def pdSum_b14 (l6 : List AV → Int → Int → List AV → List AV → Option (List AV)) (l14 : List AV → Int → Int → List AV → Int → Int → List AV → List AV → List AV → List AV → Option (List AV)) (t10 : List AV) (t11 : Int) (t12 : Int) (t18 : List AV) (t19 : Int) (t20 : Int) (h0 : List AV) (h1 : List AV) (h2 : List AV) (h3 : List AV) : Option (List AV) :=
  bif decide (t20 < t19) then
  bif inRange t20 (List.length t18) then
    Option.bind
      (raMulF
        ([AV.bool (AV.toBool (aget (AV.flds (aget h3 0)) 0)), AV.ints .u64 (AV.asInts (aget (AV.flds (aget h3 0)) 1)),
            AV.ints .u64 (AV.asInts (aget (AV.flds (aget h3 0)) 2))],
          [AV.bool (AV.toBool (aget (AV.flds (aget t18 (Int.toNat t20))) 0)), AV.ints .u64 (AV.asInts (aget (AV.flds (aget t18 (Int.toNat t20))) 1)),
            AV.ints .u64 (AV.asInts (aget (AV.flds (aget t18 (Int.toNat t20))) 2))]))
      fun t =>
      l14 t10 t11 t12 t18 t19 (addI .i64 t20 (1 : Int)) h0 h1 h2
        (List.set h3 0 (AV.agg [AV.bool (AV.toBool (aget t.1 0)), AV.ints .u64 (AV.asInts (aget t.1 1)), AV.ints .u64 (AV.asInts (aget t.1 2))]))
  else none
else
  bif AV.toBool (aget (AV.flds (aget h2 0)) 0) then
    Option.bind
      (raSubF
        ([AV.bool (AV.toBool (aget (AV.flds (aget h1 0)) 0)), AV.ints .u64 (AV.asInts (aget (AV.flds (aget h1 0)) 1)),
            AV.ints .u64 (AV.asInts (aget (AV.flds (aget h1 0)) 2))],
          [AV.bool (AV.toBool (aget (AV.flds (aget h3 0)) 0)), AV.ints .u64 (AV.asInts (aget (AV.flds (aget h3 0)) 1)),
            AV.ints .u64 (AV.asInts (aget (AV.flds (aget h3 0)) 2))]))
      fun t =>
      l6 t10 t11 (addI .i64 t12 (1 : Int)) h0
        (List.set h1 0 (AV.agg [AV.bool (AV.toBool (aget t.1 0)), AV.ints .u64 (AV.asInts (aget t.1 1)), AV.ints .u64 (AV.asInts (aget t.1 2))]))
  else
    Option.bind
      (raAddF
        ([AV.bool (AV.toBool (aget (AV.flds (aget h1 0)) 0)), AV.ints .u64 (AV.asInts (aget (AV.flds (aget h1 0)) 1)),
            AV.ints .u64 (AV.asInts (aget (AV.flds (aget h1 0)) 2))],
          [AV.bool (AV.toBool (aget (AV.flds (aget h3 0)) 0)), AV.ints .u64 (AV.asInts (aget (AV.flds (aget h3 0)) 1)),
            AV.ints .u64 (AV.asInts (aget (AV.flds (aget h3 0)) 2))]))
      fun t =>
      l6 t10 t11 (addI .i64 t12 (1 : Int)) h0
        (List.set h1 0 (AV.agg [AV.bool (AV.toBool (aget t.1 0)), AV.ints .u64 (AV.asInts (aget t.1 1)), AV.ints .u64 (AV.asInts (aget t.1 2))]))
mutual
def pdSum_L6 : Nat → (List AV) → Int → Int → (List AV) → (List AV) → Option (List AV)
  | 0, _, _, _, _, _ => none
  | k + 1, t10, t11, t12, h0, h1 => pdSum_b6 (pdSum_L6 k) (pdSum_L14 k) t10 t11 t12 h0 h1
def pdSum_L14 : Nat → (List AV) → Int → Int → (List AV) → Int → Int → (List AV) → (List AV) → (List AV) → (List AV) → Option (List AV)
  | 0, _, _, _, _, _, _, _, _, _, _ => none
  | k + 1, t10, t11, t12, t18, t19, t20, h0, h1, h2, h3 => pdSum_b14 (pdSum_L6 k) (pdSum_L14 k) t10 t11 t12 t18 t19 t20 h0 h1 h2 h3
end
noncomputable def pdSum_E : Env (dens [.st [.bool, .sl (.int .u64), .sl (.int .u64)]]) := envR S.tab [(65, mkF [.int .i64] [.st [.bool, .sl (.int .u64), .sl (.int .u64)]] raIntF), (66, mkF [.st [.bool, .sl (.int .u64), .sl (.int .u64)], .st [.bool, .sl (.int .u64), .sl (.int .u64)]] [.st [.bool, .sl (.int .u64), .sl (.int .u64)], .int .i64] raMulF), (64, mkF [.st [.bool, .sl (.int .u64), .sl (.int .u64)], .st [.bool, .sl (.int .u64), .sl (.int .u64)]] [.st [.bool, .sl (.int .u64), .sl (.int .u64)], .int .i64] raSubF), (67, mkF [.st [.bool, .sl (.int .u64), .sl (.int .u64)], .st [.bool, .sl (.int .u64), .sl (.int .u64)]] [.st [.bool, .sl (.int .u64), .sl (.int .u64)], .int .i64] raAddF)] Tryz.f35 [.cell 2 34] [.st [.bool, .sl (.int .u64), .sl (.int .u64)]]
theorem pdSum_s0 (r : Rec (dens [.st [.bool, .sl (.int .u64), .sl (.int .u64)]])) (a : List AV) : evT pdSum_E pdSum_h r 3000 false [.code (bodyOf Tryz.f35)] (T0 0 [.list (.st [.bool, .sl (.st [.bool, .sl (.int .u64), .sl (.int .u64)])]) a]) [] = pdSum_b0 (fun t10 t11 t12 h0 h1 => r (todoOf 6 (bodyOf Tryz.f35)) [(2, AV.ptr 0 3 0 0), (3, AV.ptr 1 3 0 0),
  (10, AV.list (ETy.st [ETy.bool, ETy.sl (ETy.st [ETy.bool, ETy.sl (ETy.int .u64), ETy.sl (ETy.int .u64)])]) t10), (11, AV.int .i64 t11),
  (12, AV.int .i64 t12)] [Blk.A 34 (ETy.st [ETy.bool, ETy.sl (ETy.int .u64), ETy.sl (ETy.int .u64)]) h0,
  Blk.A 34 (ETy.st [ETy.bool, ETy.sl (ETy.int .u64), ETy.sl (ETy.int .u64)]) h1]) (fun t10 t11 t12 t18 t19 t20 h0 h1 h2 h3 => r (todoOf 14 (bodyOf Tryz.f35)) [(2, AV.ptr 0 3 0 0), (3, AV.ptr 1 3 0 0),
  (5, AV.ptr (Nat.succ 1) 2 0 0), (6, AV.ptr (Nat.succ (Nat.succ 1)) 3 0 0),
  (10, AV.list (ETy.st [ETy.bool, ETy.sl (ETy.st [ETy.bool, ETy.sl (ETy.int .u64), ETy.sl (ETy.int .u64)])]) t10), (11, AV.int .i64 t11),
  (12, AV.int .i64 t12), (18, AV.list (ETy.st [ETy.bool, ETy.sl (ETy.int .u64), ETy.sl (ETy.int .u64)]) t18), (19, AV.int .i64 t19),
  (20, AV.int .i64 t20)] [Blk.A 34 (ETy.st [ETy.bool, ETy.sl (ETy.int .u64), ETy.sl (ETy.int .u64)]) h0,
  Blk.A 34 (ETy.st [ETy.bool, ETy.sl (ETy.int .u64), ETy.sl (ETy.int .u64)]) h1,
  Blk.A 78 (ETy.st [ETy.bool, ETy.sl (ETy.st [ETy.bool, ETy.sl (ETy.int .u64), ETy.sl (ETy.int .u64)])]) h2,
  Blk.A 34 (ETy.st [ETy.bool, ETy.sl (ETy.int .u64), ETy.sl (ETy.int .u64)]) h3]) a := by kernel_rfl
theorem pdSum_s6 (r : Rec (dens [.st [.bool, .sl (.int .u64), .sl (.int .u64)]])) (t10 : List AV) (t11 : Int) (t12 : Int) (h0 : List AV) (h1 : List AV) : evT pdSum_E pdSum_h r 3000 true (todoOf 6 (bodyOf Tryz.f35)) [(2, AV.ptr 0 3 0 0), (3, AV.ptr 1 3 0 0),
  (10, AV.list (ETy.st [ETy.bool, ETy.sl (ETy.st [ETy.bool, ETy.sl (ETy.int .u64), ETy.sl (ETy.int .u64)])]) t10), (11, AV.int .i64 t11),
  (12, AV.int .i64 t12)] [Blk.A 34 (ETy.st [ETy.bool, ETy.sl (ETy.int .u64), ETy.sl (ETy.int .u64)]) h0,
  Blk.A 34 (ETy.st [ETy.bool, ETy.sl (ETy.int .u64), ETy.sl (ETy.int .u64)]) h1] = pdSum_b6 (fun t10 t11 t12 h0 h1 => r (todoOf 6 (bodyOf Tryz.f35)) [(2, AV.ptr 0 3 0 0), (3, AV.ptr 1 3 0 0),
  (10, AV.list (ETy.st [ETy.bool, ETy.sl (ETy.st [ETy.bool, ETy.sl (ETy.int .u64), ETy.sl (ETy.int .u64)])]) t10), (11, AV.int .i64 t11),
  (12, AV.int .i64 t12)] [Blk.A 34 (ETy.st [ETy.bool, ETy.sl (ETy.int .u64), ETy.sl (ETy.int .u64)]) h0,
  Blk.A 34 (ETy.st [ETy.bool, ETy.sl (ETy.int .u64), ETy.sl (ETy.int .u64)]) h1]) (fun t10 t11 t12 t18 t19 t20 h0 h1 h2 h3 => r (todoOf 14 (bodyOf Tryz.f35)) [(2, AV.ptr 0 3 0 0), (3, AV.ptr 1 3 0 0),
  (5, AV.ptr (Nat.succ 1) 2 0 0), (6, AV.ptr (Nat.succ (Nat.succ 1)) 3 0 0),
  (10, AV.list (ETy.st [ETy.bool, ETy.sl (ETy.st [ETy.bool, ETy.sl (ETy.int .u64), ETy.sl (ETy.int .u64)])]) t10), (11, AV.int .i64 t11),
  (12, AV.int .i64 t12), (18, AV.list (ETy.st [ETy.bool, ETy.sl (ETy.int .u64), ETy.sl (ETy.int .u64)]) t18), (19, AV.int .i64 t19),
  (20, AV.int .i64 t20)] [Blk.A 34 (ETy.st [ETy.bool, ETy.sl (ETy.int .u64), ETy.sl (ETy.int .u64)]) h0,
  Blk.A 34 (ETy.st [ETy.bool, ETy.sl (ETy.int .u64), ETy.sl (ETy.int .u64)]) h1,
  Blk.A 78 (ETy.st [ETy.bool, ETy.sl (ETy.st [ETy.bool, ETy.sl (ETy.int .u64), ETy.sl (ETy.int .u64)])]) h2,
  Blk.A 34 (ETy.st [ETy.bool, ETy.sl (ETy.int .u64), ETy.sl (ETy.int .u64)]) h3]) t10 t11 t12 h0 h1 := by kernel_rfl
theorem pdSum_s14 (r : Rec (dens [.st [.bool, .sl (.int .u64), .sl (.int .u64)]])) (t10 : List AV) (t11 : Int) (t12 : Int) (t18 : List AV) (t19 : Int) (t20 : Int) (h0 : List AV) (h1 : List AV) (h2 : List AV) (h3 : List AV) : evT pdSum_E pdSum_h r 3000 true (todoOf 14 (bodyOf Tryz.f35)) [(2, AV.ptr 0 3 0 0), (3, AV.ptr 1 3 0 0),
  (5, AV.ptr (Nat.succ 1) 2 0 0), (6, AV.ptr (Nat.succ (Nat.succ 1)) 3 0 0),
  (10, AV.list (ETy.st [ETy.bool, ETy.sl (ETy.st [ETy.bool, ETy.sl (ETy.int .u64), ETy.sl (ETy.int .u64)])]) t10), (11, AV.int .i64 t11),
  (12, AV.int .i64 t12), (18, AV.list (ETy.st [ETy.bool, ETy.sl (ETy.int .u64), ETy.sl (ETy.int .u64)]) t18), (19, AV.int .i64 t19),
  (20, AV.int .i64 t20)] [Blk.A 34 (ETy.st [ETy.bool, ETy.sl (ETy.int .u64), ETy.sl (ETy.int .u64)]) h0,
  Blk.A 34 (ETy.st [ETy.bool, ETy.sl (ETy.int .u64), ETy.sl (ETy.int .u64)]) h1,
  Blk.A 78 (ETy.st [ETy.bool, ETy.sl (ETy.st [ETy.bool, ETy.sl (ETy.int .u64), ETy.sl (ETy.int .u64)])]) h2,
  Blk.A 34 (ETy.st [ETy.bool, ETy.sl (ETy.int .u64), ETy.sl (ETy.int .u64)]) h3] = pdSum_b14 (fun t10 t11 t12 h0 h1 => r (todoOf 6 (bodyOf Tryz.f35)) [(2, AV.ptr 0 3 0 0), (3, AV.ptr 1 3 0 0),
  (10, AV.list (ETy.st [ETy.bool, ETy.sl (ETy.st [ETy.bool, ETy.sl (ETy.int .u64), ETy.sl (ETy.int .u64)])]) t10), (11, AV.int .i64 t11),
  (12, AV.int .i64 t12)] [Blk.A 34 (ETy.st [ETy.bool, ETy.sl (ETy.int .u64), ETy.sl (ETy.int .u64)]) h0,
  Blk.A 34 (ETy.st [ETy.bool, ETy.sl (ETy.int .u64), ETy.sl (ETy.int .u64)]) h1]) (fun t10 t11 t12 t18 t19 t20 h0 h1 h2 h3 => r (todoOf 14 (bodyOf Tryz.f35)) [(2, AV.ptr 0 3 0 0), (3, AV.ptr 1 3 0 0),
  (5, AV.ptr (Nat.succ 1) 2 0 0), (6, AV.ptr (Nat.succ (Nat.succ 1)) 3 0 0),
  (10, AV.list (ETy.st [ETy.bool, ETy.sl (ETy.st [ETy.bool, ETy.sl (ETy.int .u64), ETy.sl (ETy.int .u64)])]) t10), (11, AV.int .i64 t11),
  (12, AV.int .i64 t12), (18, AV.list (ETy.st [ETy.bool, ETy.sl (ETy.int .u64), ETy.sl (ETy.int .u64)]) t18), (19, AV.int .i64 t19),
  (20, AV.int .i64 t20)] [Blk.A 34 (ETy.st [ETy.bool, ETy.sl (ETy.int .u64), ETy.sl (ETy.int .u64)]) h0,
  Blk.A 34 (ETy.st [ETy.bool, ETy.sl (ETy.int .u64), ETy.sl (ETy.int .u64)]) h1,
  Blk.A 78 (ETy.st [ETy.bool, ETy.sl (ETy.st [ETy.bool, ETy.sl (ETy.int .u64), ETy.sl (ETy.int .u64)])]) h2,
  Blk.A 34 (ETy.st [ETy.bool, ETy.sl (ETy.int .u64), ETy.sl (ETy.int .u64)]) h3]) t10 t11 t12 t18 t19 t20 h0 h1 h2 h3 := by kernel_rfl
theorem pdSum_k : ∀ k, (∀ (t10 : List AV) (t11 : Int) (t12 : Int) (h0 : List AV) (h1 : List AV), evK pdSum_E pdSum_h 3000 k (todoOf 6 (bodyOf Tryz.f35)) [(2, AV.ptr 0 3 0 0), (3, AV.ptr 1 3 0 0),
  (10, AV.list (ETy.st [ETy.bool, ETy.sl (ETy.st [ETy.bool, ETy.sl (ETy.int .u64), ETy.sl (ETy.int .u64)])]) t10), (11, AV.int .i64 t11),
  (12, AV.int .i64 t12)] [Blk.A 34 (ETy.st [ETy.bool, ETy.sl (ETy.int .u64), ETy.sl (ETy.int .u64)]) h0,
  Blk.A 34 (ETy.st [ETy.bool, ETy.sl (ETy.int .u64), ETy.sl (ETy.int .u64)]) h1] = pdSum_L6 k t10 t11 t12 h0 h1) ∧ (∀ (t10 : List AV) (t11 : Int) (t12 : Int) (t18 : List AV) (t19 : Int) (t20 : Int) (h0 : List AV) (h1 : List AV) (h2 : List AV) (h3 : List AV), evK pdSum_E pdSum_h 3000 k (todoOf 14 (bodyOf Tryz.f35)) [(2, AV.ptr 0 3 0 0), (3, AV.ptr 1 3 0 0),
  (5, AV.ptr (Nat.succ 1) 2 0 0), (6, AV.ptr (Nat.succ (Nat.succ 1)) 3 0 0),
  (10, AV.list (ETy.st [ETy.bool, ETy.sl (ETy.st [ETy.bool, ETy.sl (ETy.int .u64), ETy.sl (ETy.int .u64)])]) t10), (11, AV.int .i64 t11),
  (12, AV.int .i64 t12), (18, AV.list (ETy.st [ETy.bool, ETy.sl (ETy.int .u64), ETy.sl (ETy.int .u64)]) t18), (19, AV.int .i64 t19),
  (20, AV.int .i64 t20)] [Blk.A 34 (ETy.st [ETy.bool, ETy.sl (ETy.int .u64), ETy.sl (ETy.int .u64)]) h0,
  Blk.A 34 (ETy.st [ETy.bool, ETy.sl (ETy.int .u64), ETy.sl (ETy.int .u64)]) h1,
  Blk.A 78 (ETy.st [ETy.bool, ETy.sl (ETy.st [ETy.bool, ETy.sl (ETy.int .u64), ETy.sl (ETy.int .u64)])]) h2,
  Blk.A 34 (ETy.st [ETy.bool, ETy.sl (ETy.int .u64), ETy.sl (ETy.int .u64)]) h3] = pdSum_L14 k t10 t11 t12 t18 t19 t20 h0 h1 h2 h3)
  | 0 => by
    refine ⟨?_, ?_⟩ <;> intros <;> rfl
  | k + 1 => by
    have ih := pdSum_k k
    refine ⟨?_, ?_⟩ <;> intros
    · exact ((pdSum_s6 _ _ _ _ _ _).trans (by simp only [ih] <;> rfl))
    · exact ((pdSum_s14 _ _ _ _ _ _ _ _ _ _ _).trans (by simp only [ih] <;> rfl))
theorem pdSum_ev (k : Nat) (a : List AV) : evM pdSum_E pdSum_h 3000 k [.code (bodyOf Tryz.f35)] (T0 0 [.list (.st [.bool, .sl (.st [.bool, .sl (.int .u64), .sl (.int .u64)])]) a]) [] = pdSum_b0 (pdSum_L6 k) (pdSum_L14 k) a := by
  refine (pdSum_s0 _ a).trans ?_
  simp only [pdSum_k k] <;> rfl
def pdPlaces_h : Nat → Option Head := hintOf [(6, ⟨[(4, .same), (14, .same), (15, .same), (16, .same)], 1⟩)]
def pdPlaces_b0 (l6 : List AV → Int → Int → List AV → Option (List AV × Bool)) (a : List AV) : Option (List AV × Bool) :=
  bif bif decide ((0 : Int) ≤ (↑(List.length a) : Int)) then decide ((↑(List.length a) : Int) * (112 : Int) ≤ (281474976710656 : Int)) else false then
  l6 a (↑(List.length a) : Int) (0 : Int)
    (List.replicate (Int.toNat (↑(List.length a) : Int)) (AV.agg [AV.bool false, AV.ints .u64 [], AV.ints .u64 [], AV.bool false, AV.ints .u64 [], AV.ints .u64 []]))
else none
def pdPlaces_b6 (l6 : List AV → Int → Int → List AV → Option (List AV × Bool)) (t14 : List AV) (t15 : Int) (t16 : Int) (h0 : List AV) : Option (List AV × Bool) :=
  bif decide (t16 < t15) then
  bif inRange t16 (List.length t14) then
    Option.bind (nValF (AV.toInt (aget (AV.flds (aget t14 (Int.toNat t16))) 0))) fun t =>
      Option.bind (nValF (AV.toInt (aget (AV.flds (aget t14 (Int.toNat t16))) 1))) fun t_1 =>
        bif !decide (t.2 = (0 : Int)) then some ([], false)
        else
          bif !decide (t_1.2 = (0 : Int)) then some ([], false)
          else
            bif inRange t16 (List.length h0) then
              l6 t14 t15 (addI .i64 t16 (1 : Int))
                (List.set h0 (Int.toNat t16)
                  (AV.agg
                    [AV.bool (AV.toBool (aget t.1 0)), AV.ints .u64 (AV.asInts (aget t.1 1)), AV.ints .u64 (AV.asInts (aget t.1 2)),
                      AV.bool (AV.toBool (aget t_1.1 0)), AV.ints .u64 (AV.asInts (aget t_1.1 1)), AV.ints .u64 (AV.asInts (aget t_1.1 2))]))
            else none
  else none
else some (h0, true)
mutual
def pdPlaces_L6 : Nat → (List AV) → Int → Int → (List AV) → Option (List AV × Bool)
  | 0, _, _, _, _ => none
  | k + 1, t14, t15, t16, h0 => pdPlaces_b6 (pdPlaces_L6 k) t14 t15 t16 h0
end
noncomputable def pdPlaces_E : Env (dens [.sl (.st [.bool, .sl (.int .u64), .sl (.int .u64), .bool, .sl (.int .u64), .sl (.int .u64)]), .bool]) := envOf S.tab [(55, mkF [.int .u64] [.st [.bool, .sl (.int .u64), .sl (.int .u64)], .int .i64] nValF)] Tryz.f24 [2, 3] [.sl (.st [.bool, .sl (.int .u64), .sl (.int .u64), .bool, .sl (.int .u64), .sl (.int .u64)]), .bool]
theorem pdPlaces_s0 (r : Rec (dens [.sl (.st [.bool, .sl (.int .u64), .sl (.int .u64), .bool, .sl (.int .u64), .sl (.int .u64)]), .bool])) (a : List AV) : evT pdPlaces_E pdPlaces_h r 3000 false [.code (bodyOf Tryz.f24)] (T0 0 [.list (.st [.int .u64, .int .u64]) a]) [] = pdPlaces_b0 (fun t14 t15 t16 h0 => r (todoOf 6 (bodyOf Tryz.f24)) [(4, AV.vec 0 6), (14, AV.list (ETy.st [ETy.int .u64, ETy.int .u64]) t14), (15, AV.int .i64 t15), (16, AV.int .i64 t16)] [Blk.A 64 (ETy.st [ETy.bool, ETy.sl (ETy.int .u64), ETy.sl (ETy.int .u64), ETy.bool, ETy.sl (ETy.int .u64), ETy.sl (ETy.int .u64)]) h0]) a := by kernel_rfl
theorem pdPlaces_s6 (r : Rec (dens [.sl (.st [.bool, .sl (.int .u64), .sl (.int .u64), .bool, .sl (.int .u64), .sl (.int .u64)]), .bool])) (t14 : List AV) (t15 : Int) (t16 : Int) (h0 : List AV) : evT pdPlaces_E pdPlaces_h r 3000 true (todoOf 6 (bodyOf Tryz.f24)) [(4, AV.vec 0 6), (14, AV.list (ETy.st [ETy.int .u64, ETy.int .u64]) t14), (15, AV.int .i64 t15), (16, AV.int .i64 t16)] [Blk.A 64 (ETy.st [ETy.bool, ETy.sl (ETy.int .u64), ETy.sl (ETy.int .u64), ETy.bool, ETy.sl (ETy.int .u64), ETy.sl (ETy.int .u64)]) h0] = pdPlaces_b6 (fun t14 t15 t16 h0 => r (todoOf 6 (bodyOf Tryz.f24)) [(4, AV.vec 0 6), (14, AV.list (ETy.st [ETy.int .u64, ETy.int .u64]) t14), (15, AV.int .i64 t15), (16, AV.int .i64 t16)] [Blk.A 64 (ETy.st [ETy.bool, ETy.sl (ETy.int .u64), ETy.sl (ETy.int .u64), ETy.bool, ETy.sl (ETy.int .u64), ETy.sl (ETy.int .u64)]) h0]) t14 t15 t16 h0 := by kernel_rfl
theorem pdPlaces_k : ∀ k, (∀ (t14 : List AV) (t15 : Int) (t16 : Int) (h0 : List AV), evK pdPlaces_E pdPlaces_h 3000 k (todoOf 6 (bodyOf Tryz.f24)) [(4, AV.vec 0 6), (14, AV.list (ETy.st [ETy.int .u64, ETy.int .u64]) t14), (15, AV.int .i64 t15), (16, AV.int .i64 t16)] [Blk.A 64 (ETy.st [ETy.bool, ETy.sl (ETy.int .u64), ETy.sl (ETy.int .u64), ETy.bool, ETy.sl (ETy.int .u64), ETy.sl (ETy.int .u64)]) h0] = pdPlaces_L6 k t14 t15 t16 h0)
  | 0 => by
    refine ?_ <;> intros <;> rfl
  | k + 1 => by
    have ih := pdPlaces_k k
    refine ?_ <;> intros
    · exact ((pdPlaces_s6 _ _ _ _ _).trans (by simp only [ih] <;> rfl))
theorem pdPlaces_ev (k : Nat) (a : List AV) : evM pdPlaces_E pdPlaces_h 3000 k [.code (bodyOf Tryz.f24)] (T0 0 [.list (.st [.int .u64, .int .u64]) a]) [] = pdPlaces_b0 (pdPlaces_L6 k) a := by
  refine (pdPlaces_s0 _ a).trans ?_
  simp only [pdPlaces_k k] <;> rfl
def pdLess_h : Nat → Option Head := hintOf []
def pdLess_b0  (a : List AV) (b : List AV) : Option (List AV) :=
  Option.bind
  (raSubF
    ([AV.bool (AV.toBool (aget a 0)), AV.ints .u64 (AV.asInts (aget a 1)), AV.ints .u64 (AV.asInts (aget a 2))],
      [AV.bool (AV.toBool (aget b 0)), AV.ints .u64 (AV.asInts (aget b 1)), AV.ints .u64 (AV.asInts (aget b 2))]))
  fun t =>
  Option.bind
    (raSubF
      ([AV.bool (AV.toBool (aget a 3)), AV.ints .u64 (AV.asInts (aget a 4)), AV.ints .u64 (AV.asInts (aget a 5))],
        [AV.bool (AV.toBool (aget b 3)), AV.ints .u64 (AV.asInts (aget b 4)), AV.ints .u64 (AV.asInts (aget b 5))]))
    fun t_1 =>
    some
      [AV.bool (AV.toBool (aget t.1 0)), AV.ints .u64 (AV.asInts (aget t.1 1)), AV.ints .u64 (AV.asInts (aget t.1 2)),
        AV.bool (AV.toBool (aget t_1.1 0)), AV.ints .u64 (AV.asInts (aget t_1.1 1)), AV.ints .u64 (AV.asInts (aget t_1.1 2))]
noncomputable def pdLess_E : Env (dens [.st [.bool, .sl (.int .u64), .sl (.int .u64), .bool, .sl (.int .u64), .sl (.int .u64)]]) := envR S.tab [(64, mkF [.st [.bool, .sl (.int .u64), .sl (.int .u64)], .st [.bool, .sl (.int .u64), .sl (.int .u64)]] [.st [.bool, .sl (.int .u64), .sl (.int .u64)], .int .i64] raSubF)] Tryz.f33 [.cell 4 64] [.st [.bool, .sl (.int .u64), .sl (.int .u64), .bool, .sl (.int .u64), .sl (.int .u64)]]
theorem pdLess_s0 (r : Rec (dens [.st [.bool, .sl (.int .u64), .sl (.int .u64), .bool, .sl (.int .u64), .sl (.int .u64)]])) (a : List AV) (b : List AV) : evT pdLess_E pdLess_h r 3000 false [.code (bodyOf Tryz.f33)] (T0 0 [.agg (etaL [.bool, .sl (.int .u64), .sl (.int .u64), .bool, .sl (.int .u64), .sl (.int .u64)] 0 a), .agg (etaL [.bool, .sl (.int .u64), .sl (.int .u64), .bool, .sl (.int .u64), .sl (.int .u64)] 0 b)]) [] = pdLess_b0  a b := by kernel_rfl
theorem pdLess_ev (k : Nat) (a : List AV) (b : List AV) : evM pdLess_E pdLess_h 3000 k [.code (bodyOf Tryz.f33)] (T0 0 [.agg (etaL [.bool, .sl (.int .u64), .sl (.int .u64), .bool, .sl (.int .u64), .sl (.int .u64)] 0 a), .agg (etaL [.bool, .sl (.int .u64), .sl (.int .u64), .bool, .sl (.int .u64), .sl (.int .u64)] 0 b)]) [] = pdLess_b0  a b := by
  exact pdLess_s0 _ a b
def pdSquare_h : Nat → Option Head := hintOf []
def pdSquare_b0  (a : List AV) : Option (List AV) :=
  Option.bind
  (pdPlusF
    [AV.agg [AV.bool (AV.toBool (aget a 0)), AV.ints .u64 (AV.asInts (aget a 1)), AV.ints .u64 (AV.asInts (aget a 2))],
      AV.agg [AV.bool (AV.toBool (aget a 0)), AV.ints .u64 (AV.asInts (aget a 1)), AV.ints .u64 (AV.asInts (aget a 2))]])
  fun t =>
  Option.bind
    (pdPlusF
      [AV.agg [AV.bool (AV.toBool (aget a 3)), AV.ints .u64 (AV.asInts (aget a 4)), AV.ints .u64 (AV.asInts (aget a 5))],
        AV.agg [AV.bool (AV.toBool (aget a 3)), AV.ints .u64 (AV.asInts (aget a 4)), AV.ints .u64 (AV.asInts (aget a 5))]])
    fun t_1 =>
    Option.bind
      (pdSumF
        [AV.agg [AV.bool (AV.toBool (aget t 0)), AV.list (ETy.st [ETy.bool, ETy.sl (ETy.int .u64), ETy.sl (ETy.int .u64)]) (AV.asList (aget t 1))],
          AV.agg [AV.bool (AV.toBool (aget t_1 0)), AV.list (ETy.st [ETy.bool, ETy.sl (ETy.int .u64), ETy.sl (ETy.int .u64)]) (AV.asList (aget t_1 1))]])
      fun t => some [AV.bool (AV.toBool (aget t 0)), AV.ints .u64 (AV.asInts (aget t 1)), AV.ints .u64 (AV.asInts (aget t 2))]
noncomputable def pdSquare_E : Env (dens [.st [.bool, .sl (.int .u64), .sl (.int .u64)]]) := envR S.tab [(36, mkF [.sl (.st [.bool, .sl (.int .u64), .sl (.int .u64)])] [.st [.bool, .sl (.st [.bool, .sl (.int .u64), .sl (.int .u64)])]] pdPlusF), (35, mkF [.sl (.st [.bool, .sl (.st [.bool, .sl (.int .u64), .sl (.int .u64)])])] [.st [.bool, .sl (.int .u64), .sl (.int .u64)]] pdSumF)] Tryz.f34 [.cell 2 34] [.st [.bool, .sl (.int .u64), .sl (.int .u64)]]
theorem pdSquare_s0 (r : Rec (dens [.st [.bool, .sl (.int .u64), .sl (.int .u64)]])) (a : List AV) : evT pdSquare_E pdSquare_h r 3000 false [.code (bodyOf Tryz.f34)] (T0 0 [.agg (etaL [.bool, .sl (.int .u64), .sl (.int .u64), .bool, .sl (.int .u64), .sl (.int .u64)] 0 a)]) [] = pdSquare_b0  a := by kernel_rfl
theorem pdSquare_ev (k : Nat) (a : List AV) : evM pdSquare_E pdSquare_h 3000 k [.code (bodyOf Tryz.f34)] (T0 0 [.agg (etaL [.bool, .sl (.int .u64), .sl (.int .u64), .bool, .sl (.int .u64), .sl (.int .u64)] 0 a)]) [] = pdSquare_b0  a := by
  exact pdSquare_s0 _ a
def pdArea_h : Nat → Option Head := hintOf []
def pdArea_b0  (a : List AV) (b : List AV) (c : List AV) : Option (List AV) :=
  Option.bind
  (pdLessF
    ([AV.bool (AV.toBool (aget b 0)), AV.ints .u64 (AV.asInts (aget b 1)), AV.ints .u64 (AV.asInts (aget b 2)), AV.bool (AV.toBool (aget b 3)),
        AV.ints .u64 (AV.asInts (aget b 4)), AV.ints .u64 (AV.asInts (aget b 5))],
      [AV.bool (AV.toBool (aget a 0)), AV.ints .u64 (AV.asInts (aget a 1)), AV.ints .u64 (AV.asInts (aget a 2)), AV.bool (AV.toBool (aget a 3)),
        AV.ints .u64 (AV.asInts (aget a 4)), AV.ints .u64 (AV.asInts (aget a 5))]))
  fun t =>
  Option.bind
    (pdLessF
      ([AV.bool (AV.toBool (aget c 0)), AV.ints .u64 (AV.asInts (aget c 1)), AV.ints .u64 (AV.asInts (aget c 2)), AV.bool (AV.toBool (aget c 3)),
          AV.ints .u64 (AV.asInts (aget c 4)), AV.ints .u64 (AV.asInts (aget c 5))],
        [AV.bool (AV.toBool (aget a 0)), AV.ints .u64 (AV.asInts (aget a 1)), AV.ints .u64 (AV.asInts (aget a 2)), AV.bool (AV.toBool (aget a 3)),
          AV.ints .u64 (AV.asInts (aget a 4)), AV.ints .u64 (AV.asInts (aget a 5))]))
    fun t_1 =>
    Option.bind
      (pdPlusF
        [AV.agg [AV.bool (AV.toBool (aget t 0)), AV.ints .u64 (AV.asInts (aget t 1)), AV.ints .u64 (AV.asInts (aget t 2))],
          AV.agg [AV.bool (AV.toBool (aget t_1 3)), AV.ints .u64 (AV.asInts (aget t_1 4)), AV.ints .u64 (AV.asInts (aget t_1 5))]])
      fun t_2 =>
      Option.bind
        (pdMinusF
          [AV.agg [AV.bool (AV.toBool (aget t 3)), AV.ints .u64 (AV.asInts (aget t 4)), AV.ints .u64 (AV.asInts (aget t 5))],
            AV.agg [AV.bool (AV.toBool (aget t_1 0)), AV.ints .u64 (AV.asInts (aget t_1 1)), AV.ints .u64 (AV.asInts (aget t_1 2))]])
        fun t =>
        Option.bind
          (pdSumF
            [AV.agg [AV.bool (AV.toBool (aget t_2 0)), AV.list (ETy.st [ETy.bool, ETy.sl (ETy.int .u64), ETy.sl (ETy.int .u64)]) (AV.asList (aget t_2 1))],
              AV.agg [AV.bool (AV.toBool (aget t 0)), AV.list (ETy.st [ETy.bool, ETy.sl (ETy.int .u64), ETy.sl (ETy.int .u64)]) (AV.asList (aget t 1))]])
          fun t => some [AV.bool (AV.toBool (aget t 0)), AV.ints .u64 (AV.asInts (aget t 1)), AV.ints .u64 (AV.asInts (aget t 2))]
noncomputable def pdArea_E : Env (dens [.st [.bool, .sl (.int .u64), .sl (.int .u64)]]) := envR S.tab [(33, mkF [.st [.bool, .sl (.int .u64), .sl (.int .u64), .bool, .sl (.int .u64), .sl (.int .u64)], .st [.bool, .sl (.int .u64), .sl (.int .u64), .bool, .sl (.int .u64), .sl (.int .u64)]] [.st [.bool, .sl (.int .u64), .sl (.int .u64), .bool, .sl (.int .u64), .sl (.int .u64)]] pdLessF), (36, mkF [.sl (.st [.bool, .sl (.int .u64), .sl (.int .u64)])] [.st [.bool, .sl (.st [.bool, .sl (.int .u64), .sl (.int .u64)])]] pdPlusF), (37, mkF [.sl (.st [.bool, .sl (.int .u64), .sl (.int .u64)])] [.st [.bool, .sl (.st [.bool, .sl (.int .u64), .sl (.int .u64)])]] pdMinusF), (35, mkF [.sl (.st [.bool, .sl (.st [.bool, .sl (.int .u64), .sl (.int .u64)])])] [.st [.bool, .sl (.int .u64), .sl (.int .u64)]] pdSumF)] Tryz.f26 [.cell 6 34] [.st [.bool, .sl (.int .u64), .sl (.int .u64)]]
theorem pdArea_s0 (r : Rec (dens [.st [.bool, .sl (.int .u64), .sl (.int .u64)]])) (a : List AV) (b : List AV) (c : List AV) : evT pdArea_E pdArea_h r 3000 false [.code (bodyOf Tryz.f26)] (T0 0 [.agg (etaL [.bool, .sl (.int .u64), .sl (.int .u64), .bool, .sl (.int .u64), .sl (.int .u64)] 0 a), .agg (etaL [.bool, .sl (.int .u64), .sl (.int .u64), .bool, .sl (.int .u64), .sl (.int .u64)] 0 b), .agg (etaL [.bool, .sl (.int .u64), .sl (.int .u64), .bool, .sl (.int .u64), .sl (.int .u64)] 0 c)]) [] = pdArea_b0  a b c := by kernel_rfl
theorem pdArea_ev (k : Nat) (a : List AV) (b : List AV) (c : List AV) : evM pdArea_E pdArea_h 3000 k [.code (bodyOf Tryz.f26)] (T0 0 [.agg (etaL [.bool, .sl (.int .u64), .sl (.int .u64), .bool, .sl (.int .u64), .sl (.int .u64)] 0 a), .agg (etaL [.bool, .sl (.int .u64), .sl (.int .u64), .bool, .sl (.int .u64), .sl (.int .u64)] 0 b), .agg (etaL [.bool, .sl (.int .u64), .sl (.int .u64), .bool, .sl (.int .u64), .sl (.int .u64)] 0 c)]) [] = pdArea_b0  a b c := by
  exact pdArea_s0 _ a b c
def pdCompare_h : Nat → Option Head := hintOf []
def pdCompare_b0  (a : List AV) (b : List AV) : Option (Int) :=
  Option.bind
  (raCmpF
    ([AV.bool (AV.toBool (aget a 0)), AV.ints .u64 (AV.asInts (aget a 1)), AV.ints .u64 (AV.asInts (aget a 2))],
      [AV.bool (AV.toBool (aget b 0)), AV.ints .u64 (AV.asInts (aget b 1)), AV.ints .u64 (AV.asInts (aget b 2))]))
  fun t => some t.1
noncomputable def pdCompare_E : Env (dens [.int .i64]) := envOf S.tab [(73, mkF [.st [.bool, .sl (.int .u64), .sl (.int .u64)], .st [.bool, .sl (.int .u64), .sl (.int .u64)]] [.int .i64, .int .i64] raCmpF)] Tryz.f46 [4] [.int .i64]
theorem pdCompare_s0 (r : Rec (dens [.int .i64])) (a : List AV) (b : List AV) : evT pdCompare_E pdCompare_h r 3000 false [.code (bodyOf Tryz.f46)] (T0 0 [.agg (etaL [.bool, .sl (.int .u64), .sl (.int .u64)] 0 a), .agg (etaL [.bool, .sl (.int .u64), .sl (.int .u64)] 0 b)]) [] = pdCompare_b0  a b := by kernel_rfl
theorem pdCompare_ev (k : Nat) (a : List AV) (b : List AV) : evM pdCompare_E pdCompare_h 3000 k [.code (bodyOf Tryz.f46)] (T0 0 [.agg (etaL [.bool, .sl (.int .u64), .sl (.int .u64)] 0 a), .agg (etaL [.bool, .sl (.int .u64), .sl (.int .u64)] 0 b)]) [] = pdCompare_b0  a b := by
  exact pdCompare_s0 _ a b
def pdOrder_h : Nat → Option Head := hintOf []
def pdOrder_b0  (a : List AV) (b : List AV) : Option (Int) :=
  Option.bind
  (pdCompareF
    ([AV.bool (AV.toBool (aget a 0)), AV.ints .u64 (AV.asInts (aget a 1)), AV.ints .u64 (AV.asInts (aget a 2))],
      [AV.bool (AV.toBool (aget b 0)), AV.ints .u64 (AV.asInts (aget b 1)), AV.ints .u64 (AV.asInts (aget b 2))]))
  fun t =>
  bif !decide (t = (0 : Int)) then some t
  else
    Option.bind
      (pdCompareF
        ([AV.bool (AV.toBool (aget a 3)), AV.ints .u64 (AV.asInts (aget a 4)), AV.ints .u64 (AV.asInts (aget a 5))],
          [AV.bool (AV.toBool (aget b 3)), AV.ints .u64 (AV.asInts (aget b 4)), AV.ints .u64 (AV.asInts (aget b 5))]))
      fun t => some t
noncomputable def pdOrder_E : Env (dens [.int .i64]) := envOf S.tab [(46, mkF [.st [.bool, .sl (.int .u64), .sl (.int .u64)], .st [.bool, .sl (.int .u64), .sl (.int .u64)]] [.int .i64] pdCompareF)] Tryz.f44 [4] [.int .i64]
theorem pdOrder_s0 (r : Rec (dens [.int .i64])) (a : List AV) (b : List AV) : evT pdOrder_E pdOrder_h r 3000 false [.code (bodyOf Tryz.f44)] (T0 0 [.agg (etaL [.bool, .sl (.int .u64), .sl (.int .u64), .bool, .sl (.int .u64), .sl (.int .u64)] 0 a), .agg (etaL [.bool, .sl (.int .u64), .sl (.int .u64), .bool, .sl (.int .u64), .sl (.int .u64)] 0 b)]) [] = pdOrder_b0  a b := by kernel_rfl
theorem pdOrder_ev (k : Nat) (a : List AV) (b : List AV) : evM pdOrder_E pdOrder_h 3000 k [.code (bodyOf Tryz.f44)] (T0 0 [.agg (etaL [.bool, .sl (.int .u64), .sl (.int .u64), .bool, .sl (.int .u64), .sl (.int .u64)] 0 a), .agg (etaL [.bool, .sl (.int .u64), .sl (.int .u64), .bool, .sl (.int .u64), .sl (.int .u64)] 0 b)]) [] = pdOrder_b0  a b := by
  exact pdOrder_s0 _ a b
def pdOrient_h : Nat → Option Head := hintOf []
def pdOrient_b0  (a : List AV) (b : List AV) (c : List AV) : Option (Int × Int) :=
  Option.bind
  (pdPlacesF
    [AV.agg [AV.int .u64 (AV.toInt (aget a 0)), AV.int .u64 (AV.toInt (aget a 1))],
      AV.agg [AV.int .u64 (AV.toInt (aget b 0)), AV.int .u64 (AV.toInt (aget b 1))],
      AV.agg [AV.int .u64 (AV.toInt (aget c 0)), AV.int .u64 (AV.toInt (aget c 1))]])
  fun t =>
  bif !t.2 then some ((0 : Int), (220 : Int))
  else
    bif inRange (0 : Int) (List.length t.1) then
      bif inRange (1 : Int) (List.length t.1) then
        bif inRange (2 : Int) (List.length t.1) then
          Option.bind
            (pdAreaF
              ([AV.bool (AV.toBool (aget (AV.flds (aget t.1 0)) 0)), AV.ints .u64 (AV.asInts (aget (AV.flds (aget t.1 0)) 1)),
                  AV.ints .u64 (AV.asInts (aget (AV.flds (aget t.1 0)) 2)), AV.bool (AV.toBool (aget (AV.flds (aget t.1 0)) 3)),
                  AV.ints .u64 (AV.asInts (aget (AV.flds (aget t.1 0)) 4)), AV.ints .u64 (AV.asInts (aget (AV.flds (aget t.1 0)) 5))],
                [AV.bool (AV.toBool (aget (AV.flds (aget t.1 1)) 0)), AV.ints .u64 (AV.asInts (aget (AV.flds (aget t.1 1)) 1)),
                  AV.ints .u64 (AV.asInts (aget (AV.flds (aget t.1 1)) 2)), AV.bool (AV.toBool (aget (AV.flds (aget t.1 1)) 3)),
                  AV.ints .u64 (AV.asInts (aget (AV.flds (aget t.1 1)) 4)), AV.ints .u64 (AV.asInts (aget (AV.flds (aget t.1 1)) 5))],
                [AV.bool (AV.toBool (aget (AV.flds (aget t.1 2)) 0)), AV.ints .u64 (AV.asInts (aget (AV.flds (aget t.1 2)) 1)),
                  AV.ints .u64 (AV.asInts (aget (AV.flds (aget t.1 2)) 2)), AV.bool (AV.toBool (aget (AV.flds (aget t.1 2)) 3)),
                  AV.ints .u64 (AV.asInts (aget (AV.flds (aget t.1 2)) 4)), AV.ints .u64 (AV.asInts (aget (AV.flds (aget t.1 2)) 5))]))
            fun t =>
            Option.bind (raSignF [AV.bool (AV.toBool (aget t 0)), AV.ints .u64 (AV.asInts (aget t 1)), AV.ints .u64 (AV.asInts (aget t 2))]) fun t =>
              some (t, (0 : Int))
        else none
      else none
    else none
noncomputable def pdOrient_E : Env (dens [.int .i64, .int .i64]) := envOf S.tab [(24, mkF [.sl (.st [.int .u64, .int .u64])] [.sl (.st [.bool, .sl (.int .u64), .sl (.int .u64), .bool, .sl (.int .u64), .sl (.int .u64)]), .bool] pdPlacesF), (25, mkF [.st [.bool, .sl (.int .u64), .sl (.int .u64)]] [.int .i64] raSignF), (26, mkF [.st [.bool, .sl (.int .u64), .sl (.int .u64), .bool, .sl (.int .u64), .sl (.int .u64)], .st [.bool, .sl (.int .u64), .sl (.int .u64), .bool, .sl (.int .u64), .sl (.int .u64)], .st [.bool, .sl (.int .u64), .sl (.int .u64), .bool, .sl (.int .u64), .sl (.int .u64)]] [.st [.bool, .sl (.int .u64), .sl (.int .u64)]] pdAreaF)] Tryz.f5 [6, 7] [.int .i64, .int .i64]
theorem pdOrient_s0 (r : Rec (dens [.int .i64, .int .i64])) (a : List AV) (b : List AV) (c : List AV) : evT pdOrient_E pdOrient_h r 3000 false [.code (bodyOf Tryz.f5)] (T0 0 [.agg (etaL [.int .u64, .int .u64] 0 a), .agg (etaL [.int .u64, .int .u64] 0 b), .agg (etaL [.int .u64, .int .u64] 0 c)]) [] = pdOrient_b0  a b c := by kernel_rfl
theorem pdOrient_ev (k : Nat) (a : List AV) (b : List AV) (c : List AV) : evM pdOrient_E pdOrient_h 3000 k [.code (bodyOf Tryz.f5)] (T0 0 [.agg (etaL [.int .u64, .int .u64] 0 a), .agg (etaL [.int .u64, .int .u64] 0 b), .agg (etaL [.int .u64, .int .u64] 0 c)]) [] = pdOrient_b0  a b c := by
  exact pdOrient_s0 _ a b c
def pdInCircle_h : Nat → Option Head := hintOf []
def pdInCircle_b0  (a : List AV) (b : List AV) (c : List AV) (d : List AV) : Option (Int × Int) :=
  Option.bind
  (pdPlacesF
    [AV.agg [AV.int .u64 (AV.toInt (aget a 0)), AV.int .u64 (AV.toInt (aget a 1))],
      AV.agg [AV.int .u64 (AV.toInt (aget b 0)), AV.int .u64 (AV.toInt (aget b 1))],
      AV.agg [AV.int .u64 (AV.toInt (aget c 0)), AV.int .u64 (AV.toInt (aget c 1))],
      AV.agg [AV.int .u64 (AV.toInt (aget d 0)), AV.int .u64 (AV.toInt (aget d 1))]])
  fun t =>
  bif !t.2 then some ((0 : Int), (220 : Int))
  else
    bif inRange (0 : Int) (List.length t.1) then
      bif inRange (3 : Int) (List.length t.1) then
        Option.bind
          (pdLessF
            ([AV.bool (AV.toBool (aget (AV.flds (aget t.1 0)) 0)), AV.ints .u64 (AV.asInts (aget (AV.flds (aget t.1 0)) 1)),
                AV.ints .u64 (AV.asInts (aget (AV.flds (aget t.1 0)) 2)), AV.bool (AV.toBool (aget (AV.flds (aget t.1 0)) 3)),
                AV.ints .u64 (AV.asInts (aget (AV.flds (aget t.1 0)) 4)), AV.ints .u64 (AV.asInts (aget (AV.flds (aget t.1 0)) 5))],
              [AV.bool (AV.toBool (aget (AV.flds (aget t.1 3)) 0)), AV.ints .u64 (AV.asInts (aget (AV.flds (aget t.1 3)) 1)),
                AV.ints .u64 (AV.asInts (aget (AV.flds (aget t.1 3)) 2)), AV.bool (AV.toBool (aget (AV.flds (aget t.1 3)) 3)),
                AV.ints .u64 (AV.asInts (aget (AV.flds (aget t.1 3)) 4)), AV.ints .u64 (AV.asInts (aget (AV.flds (aget t.1 3)) 5))]))
          fun t_1 =>
          bif inRange (1 : Int) (List.length t.1) then
            bif inRange (3 : Int) (List.length t.1) then
              Option.bind
                (pdLessF
                  ([AV.bool (AV.toBool (aget (AV.flds (aget t.1 1)) 0)), AV.ints .u64 (AV.asInts (aget (AV.flds (aget t.1 1)) 1)),
                      AV.ints .u64 (AV.asInts (aget (AV.flds (aget t.1 1)) 2)), AV.bool (AV.toBool (aget (AV.flds (aget t.1 1)) 3)),
                      AV.ints .u64 (AV.asInts (aget (AV.flds (aget t.1 1)) 4)), AV.ints .u64 (AV.asInts (aget (AV.flds (aget t.1 1)) 5))],
                    [AV.bool (AV.toBool (aget (AV.flds (aget t.1 3)) 0)), AV.ints .u64 (AV.asInts (aget (AV.flds (aget t.1 3)) 1)),
                      AV.ints .u64 (AV.asInts (aget (AV.flds (aget t.1 3)) 2)), AV.bool (AV.toBool (aget (AV.flds (aget t.1 3)) 3)),
                      AV.ints .u64 (AV.asInts (aget (AV.flds (aget t.1 3)) 4)), AV.ints .u64 (AV.asInts (aget (AV.flds (aget t.1 3)) 5))]))
                fun t_2 =>
                bif inRange (2 : Int) (List.length t.1) then
                  bif inRange (3 : Int) (List.length t.1) then
                    Option.bind
                      (pdLessF
                        ([AV.bool (AV.toBool (aget (AV.flds (aget t.1 2)) 0)), AV.ints .u64 (AV.asInts (aget (AV.flds (aget t.1 2)) 1)),
                            AV.ints .u64 (AV.asInts (aget (AV.flds (aget t.1 2)) 2)), AV.bool (AV.toBool (aget (AV.flds (aget t.1 2)) 3)),
                            AV.ints .u64 (AV.asInts (aget (AV.flds (aget t.1 2)) 4)), AV.ints .u64 (AV.asInts (aget (AV.flds (aget t.1 2)) 5))],
                          [AV.bool (AV.toBool (aget (AV.flds (aget t.1 3)) 0)), AV.ints .u64 (AV.asInts (aget (AV.flds (aget t.1 3)) 1)),
                            AV.ints .u64 (AV.asInts (aget (AV.flds (aget t.1 3)) 2)), AV.bool (AV.toBool (aget (AV.flds (aget t.1 3)) 3)),
                            AV.ints .u64 (AV.asInts (aget (AV.flds (aget t.1 3)) 4)), AV.ints .u64 (AV.asInts (aget (AV.flds (aget t.1 3)) 5))]))
                      fun t =>
                      Option.bind
                        (pdSquareF
                          [AV.bool (AV.toBool (aget t_1 0)), AV.ints .u64 (AV.asInts (aget t_1 1)), AV.ints .u64 (AV.asInts (aget t_1 2)),
                            AV.bool (AV.toBool (aget t_1 3)), AV.ints .u64 (AV.asInts (aget t_1 4)), AV.ints .u64 (AV.asInts (aget t_1 5))])
                        fun t_3 =>
                        Option.bind
                          (pdSquareF
                            [AV.bool (AV.toBool (aget t_2 0)), AV.ints .u64 (AV.asInts (aget t_2 1)), AV.ints .u64 (AV.asInts (aget t_2 2)),
                              AV.bool (AV.toBool (aget t_2 3)), AV.ints .u64 (AV.asInts (aget t_2 4)), AV.ints .u64 (AV.asInts (aget t_2 5))])
                          fun t_4 =>
                          Option.bind
                            (pdSquareF
                              [AV.bool (AV.toBool (aget t 0)), AV.ints .u64 (AV.asInts (aget t 1)), AV.ints .u64 (AV.asInts (aget t 2)),
                                AV.bool (AV.toBool (aget t 3)), AV.ints .u64 (AV.asInts (aget t 4)), AV.ints .u64 (AV.asInts (aget t 5))])
                            fun t_5 =>
                            Option.bind
                              (pdPlusF
                                [AV.agg [AV.bool (AV.toBool (aget t_1 0)), AV.ints .u64 (AV.asInts (aget t_1 1)), AV.ints .u64 (AV.asInts (aget t_1 2))],
                                  AV.agg [AV.bool (AV.toBool (aget t_2 3)), AV.ints .u64 (AV.asInts (aget t_2 4)), AV.ints .u64 (AV.asInts (aget t_2 5))],
                                  AV.agg [AV.bool (AV.toBool (aget t_5 0)), AV.ints .u64 (AV.asInts (aget t_5 1)), AV.ints .u64 (AV.asInts (aget t_5 2))]])
                              fun t_6 =>
                              Option.bind
                                (pdMinusF
                                  [AV.agg [AV.bool (AV.toBool (aget t_1 0)), AV.ints .u64 (AV.asInts (aget t_1 1)), AV.ints .u64 (AV.asInts (aget t_1 2))],
                                    AV.agg [AV.bool (AV.toBool (aget t 3)), AV.ints .u64 (AV.asInts (aget t 4)), AV.ints .u64 (AV.asInts (aget t 5))],
                                    AV.agg
                                      [AV.bool (AV.toBool (aget t_4 0)), AV.ints .u64 (AV.asInts (aget t_4 1)), AV.ints .u64 (AV.asInts (aget t_4 2))]])
                                fun t_7 =>
                                Option.bind
                                  (pdMinusF
                                    [AV.agg
                                        [AV.bool (AV.toBool (aget t_1 3)), AV.ints .u64 (AV.asInts (aget t_1 4)), AV.ints .u64 (AV.asInts (aget t_1 5))],
                                      AV.agg
                                        [AV.bool (AV.toBool (aget t_2 0)), AV.ints .u64 (AV.asInts (aget t_2 1)), AV.ints .u64 (AV.asInts (aget t_2 2))],
                                      AV.agg
                                        [AV.bool (AV.toBool (aget t_5 0)), AV.ints .u64 (AV.asInts (aget t_5 1)), AV.ints .u64 (AV.asInts (aget t_5 2))]])
                                  fun t_8 =>
                                  Option.bind
                                    (pdPlusF
                                      [AV.agg
                                          [AV.bool (AV.toBool (aget t_1 3)), AV.ints .u64 (AV.asInts (aget t_1 4)), AV.ints .u64 (AV.asInts (aget t_1 5))],
                                        AV.agg [AV.bool (AV.toBool (aget t 0)), AV.ints .u64 (AV.asInts (aget t 1)), AV.ints .u64 (AV.asInts (aget t 2))],
                                        AV.agg
                                          [AV.bool (AV.toBool (aget t_4 0)), AV.ints .u64 (AV.asInts (aget t_4 1)), AV.ints .u64 (AV.asInts (aget t_4 2))]])
                                    fun t_9 =>
                                    Option.bind
                                      (pdPlusF
                                        [AV.agg
                                            [AV.bool (AV.toBool (aget t_3 0)), AV.ints .u64 (AV.asInts (aget t_3 1)),
                                              AV.ints .u64 (AV.asInts (aget t_3 2))],
                                          AV.agg
                                            [AV.bool (AV.toBool (aget t_2 0)), AV.ints .u64 (AV.asInts (aget t_2 1)),
                                              AV.ints .u64 (AV.asInts (aget t_2 2))],
                                          AV.agg
                                            [AV.bool (AV.toBool (aget t 3)), AV.ints .u64 (AV.asInts (aget t 4)), AV.ints .u64 (AV.asInts (aget t 5))]])
                                      fun t_10 =>
                                      Option.bind
                                        (pdMinusF
                                          [AV.agg
                                              [AV.bool (AV.toBool (aget t_3 0)), AV.ints .u64 (AV.asInts (aget t_3 1)),
                                                AV.ints .u64 (AV.asInts (aget t_3 2))],
                                            AV.agg
                                              [AV.bool (AV.toBool (aget t 0)), AV.ints .u64 (AV.asInts (aget t 1)), AV.ints .u64 (AV.asInts (aget t 2))],
                                            AV.agg
                                              [AV.bool (AV.toBool (aget t_2 3)), AV.ints .u64 (AV.asInts (aget t_2 4)),
                                                AV.ints .u64 (AV.asInts (aget t_2 5))]])
                                        fun t =>
                                        Option.bind
                                          (pdSumF
                                            [AV.agg
                                                [AV.bool (AV.toBool (aget t_6 0)),
                                                  AV.list (ETy.st [ETy.bool, ETy.sl (ETy.int .u64), ETy.sl (ETy.int .u64)]) (AV.asList (aget t_6 1))],
                                              AV.agg
                                                [AV.bool (AV.toBool (aget t_7 0)),
                                                  AV.list (ETy.st [ETy.bool, ETy.sl (ETy.int .u64), ETy.sl (ETy.int .u64)]) (AV.asList (aget t_7 1))],
                                              AV.agg
                                                [AV.bool (AV.toBool (aget t_8 0)),
                                                  AV.list (ETy.st [ETy.bool, ETy.sl (ETy.int .u64), ETy.sl (ETy.int .u64)]) (AV.asList (aget t_8 1))],
                                              AV.agg
                                                [AV.bool (AV.toBool (aget t_9 0)),
                                                  AV.list (ETy.st [ETy.bool, ETy.sl (ETy.int .u64), ETy.sl (ETy.int .u64)]) (AV.asList (aget t_9 1))],
                                              AV.agg
                                                [AV.bool (AV.toBool (aget t_10 0)),
                                                  AV.list (ETy.st [ETy.bool, ETy.sl (ETy.int .u64), ETy.sl (ETy.int .u64)]) (AV.asList (aget t_10 1))],
                                              AV.agg
                                                [AV.bool (AV.toBool (aget t 0)),
                                                  AV.list (ETy.st [ETy.bool, ETy.sl (ETy.int .u64), ETy.sl (ETy.int .u64)]) (AV.asList (aget t 1))]])
                                          fun t =>
                                          Option.bind
                                            (raSignF
                                              [AV.bool (AV.toBool (aget t 0)), AV.ints .u64 (AV.asInts (aget t 1)), AV.ints .u64 (AV.asInts (aget t 2))])
                                            fun t => some (t, (0 : Int))
                  else none
                else none
            else none
          else none
      else none
    else none
noncomputable def pdInCircle_E : Env (dens [.int .i64, .int .i64]) := envOf S.tab [(24, mkF [.sl (.st [.int .u64, .int .u64])] [.sl (.st [.bool, .sl (.int .u64), .sl (.int .u64), .bool, .sl (.int .u64), .sl (.int .u64)]), .bool] pdPlacesF), (33, mkF [.st [.bool, .sl (.int .u64), .sl (.int .u64), .bool, .sl (.int .u64), .sl (.int .u64)], .st [.bool, .sl (.int .u64), .sl (.int .u64), .bool, .sl (.int .u64), .sl (.int .u64)]] [.st [.bool, .sl (.int .u64), .sl (.int .u64), .bool, .sl (.int .u64), .sl (.int .u64)]] pdLessF), (34, mkF [.st [.bool, .sl (.int .u64), .sl (.int .u64), .bool, .sl (.int .u64), .sl (.int .u64)]] [.st [.bool, .sl (.int .u64), .sl (.int .u64)]] pdSquareF), (36, mkF [.sl (.st [.bool, .sl (.int .u64), .sl (.int .u64)])] [.st [.bool, .sl (.st [.bool, .sl (.int .u64), .sl (.int .u64)])]] pdPlusF), (37, mkF [.sl (.st [.bool, .sl (.int .u64), .sl (.int .u64)])] [.st [.bool, .sl (.st [.bool, .sl (.int .u64), .sl (.int .u64)])]] pdMinusF), (35, mkF [.sl (.st [.bool, .sl (.st [.bool, .sl (.int .u64), .sl (.int .u64)])])] [.st [.bool, .sl (.int .u64), .sl (.int .u64)]] pdSumF), (25, mkF [.st [.bool, .sl (.int .u64), .sl (.int .u64)]] [.int .i64] raSignF)] Tryz.f11 [8, 9] [.int .i64, .int .i64]
theorem pdInCircle_s0 (r : Rec (dens [.int .i64, .int .i64])) (a : List AV) (b : List AV) (c : List AV) (d : List AV) : evT pdInCircle_E pdInCircle_h r 3000 false [.code (bodyOf Tryz.f11)] (T0 0 [.agg (etaL [.int .u64, .int .u64] 0 a), .agg (etaL [.int .u64, .int .u64] 0 b), .agg (etaL [.int .u64, .int .u64] 0 c), .agg (etaL [.int .u64, .int .u64] 0 d)]) [] = pdInCircle_b0  a b c d := by kernel_rfl
theorem pdInCircle_ev (k : Nat) (a : List AV) (b : List AV) (c : List AV) (d : List AV) : evM pdInCircle_E pdInCircle_h 3000 k [.code (bodyOf Tryz.f11)] (T0 0 [.agg (etaL [.int .u64, .int .u64] 0 a), .agg (etaL [.int .u64, .int .u64] 0 b), .agg (etaL [.int .u64, .int .u64] 0 c), .agg (etaL [.int .u64, .int .u64] 0 d)]) [] = pdInCircle_b0  a b c d := by
  exact pdInCircle_s0 _ a b c d
def pdBetween_h : Nat → Option Head := hintOf []
def pdBetween_b0  (a : List AV) (b : List AV) (c : List AV) : Option (Bool × Int) :=
  Option.bind
  (pdPlacesF
    [AV.agg [AV.int .u64 (AV.toInt (aget a 0)), AV.int .u64 (AV.toInt (aget a 1))],
      AV.agg [AV.int .u64 (AV.toInt (aget b 0)), AV.int .u64 (AV.toInt (aget b 1))],
      AV.agg [AV.int .u64 (AV.toInt (aget c 0)), AV.int .u64 (AV.toInt (aget c 1))]])
  fun t =>
  bif !t.2 then some (false, (220 : Int))
  else
    bif inRange (0 : Int) (List.length t.1) then
      bif inRange (1 : Int) (List.length t.1) then
        bif inRange (2 : Int) (List.length t.1) then
          Option.bind
            (pdAreaF
              ([AV.bool (AV.toBool (aget (AV.flds (aget t.1 0)) 0)), AV.ints .u64 (AV.asInts (aget (AV.flds (aget t.1 0)) 1)),
                  AV.ints .u64 (AV.asInts (aget (AV.flds (aget t.1 0)) 2)), AV.bool (AV.toBool (aget (AV.flds (aget t.1 0)) 3)),
                  AV.ints .u64 (AV.asInts (aget (AV.flds (aget t.1 0)) 4)), AV.ints .u64 (AV.asInts (aget (AV.flds (aget t.1 0)) 5))],
                [AV.bool (AV.toBool (aget (AV.flds (aget t.1 1)) 0)), AV.ints .u64 (AV.asInts (aget (AV.flds (aget t.1 1)) 1)),
                  AV.ints .u64 (AV.asInts (aget (AV.flds (aget t.1 1)) 2)), AV.bool (AV.toBool (aget (AV.flds (aget t.1 1)) 3)),
                  AV.ints .u64 (AV.asInts (aget (AV.flds (aget t.1 1)) 4)), AV.ints .u64 (AV.asInts (aget (AV.flds (aget t.1 1)) 5))],
                [AV.bool (AV.toBool (aget (AV.flds (aget t.1 2)) 0)), AV.ints .u64 (AV.asInts (aget (AV.flds (aget t.1 2)) 1)),
                  AV.ints .u64 (AV.asInts (aget (AV.flds (aget t.1 2)) 2)), AV.bool (AV.toBool (aget (AV.flds (aget t.1 2)) 3)),
                  AV.ints .u64 (AV.asInts (aget (AV.flds (aget t.1 2)) 4)), AV.ints .u64 (AV.asInts (aget (AV.flds (aget t.1 2)) 5))]))
            fun t_1 =>
            Option.bind (raSignF [AV.bool (AV.toBool (aget t_1 0)), AV.ints .u64 (AV.asInts (aget t_1 1)), AV.ints .u64 (AV.asInts (aget t_1 2))])
              fun t_2 =>
              bif !decide (t_2 = (0 : Int)) then some (false, (0 : Int))
              else
                bif inRange (0 : Int) (List.length t.1) then
                  bif inRange (2 : Int) (List.length t.1) then
                    Option.bind
                      (pdOrderF
                        ([AV.bool (AV.toBool (aget (AV.flds (aget t.1 0)) 0)), AV.ints .u64 (AV.asInts (aget (AV.flds (aget t.1 0)) 1)),
                            AV.ints .u64 (AV.asInts (aget (AV.flds (aget t.1 0)) 2)), AV.bool (AV.toBool (aget (AV.flds (aget t.1 0)) 3)),
                            AV.ints .u64 (AV.asInts (aget (AV.flds (aget t.1 0)) 4)), AV.ints .u64 (AV.asInts (aget (AV.flds (aget t.1 0)) 5))],
                          [AV.bool (AV.toBool (aget (AV.flds (aget t.1 2)) 0)), AV.ints .u64 (AV.asInts (aget (AV.flds (aget t.1 2)) 1)),
                            AV.ints .u64 (AV.asInts (aget (AV.flds (aget t.1 2)) 2)), AV.bool (AV.toBool (aget (AV.flds (aget t.1 2)) 3)),
                            AV.ints .u64 (AV.asInts (aget (AV.flds (aget t.1 2)) 4)), AV.ints .u64 (AV.asInts (aget (AV.flds (aget t.1 2)) 5))]))
                      fun t_3 =>
                      bif inRange (2 : Int) (List.length t.1) then
                        bif inRange (1 : Int) (List.length t.1) then
                          Option.bind
                            (pdOrderF
                              ([AV.bool (AV.toBool (aget (AV.flds (aget t.1 2)) 0)), AV.ints .u64 (AV.asInts (aget (AV.flds (aget t.1 2)) 1)),
                                  AV.ints .u64 (AV.asInts (aget (AV.flds (aget t.1 2)) 2)), AV.bool (AV.toBool (aget (AV.flds (aget t.1 2)) 3)),
                                  AV.ints .u64 (AV.asInts (aget (AV.flds (aget t.1 2)) 4)),
                                  AV.ints .u64 (AV.asInts (aget (AV.flds (aget t.1 2)) 5))],
                                [AV.bool (AV.toBool (aget (AV.flds (aget t.1 1)) 0)), AV.ints .u64 (AV.asInts (aget (AV.flds (aget t.1 1)) 1)),
                                  AV.ints .u64 (AV.asInts (aget (AV.flds (aget t.1 1)) 2)), AV.bool (AV.toBool (aget (AV.flds (aget t.1 1)) 3)),
                                  AV.ints .u64 (AV.asInts (aget (AV.flds (aget t.1 1)) 4)),
                                  AV.ints .u64 (AV.asInts (aget (AV.flds (aget t.1 1)) 5))]))
                            fun t =>
                            bif decide (t_3 ≤ (0 : Int)) then
                              bif decide (t ≤ (0 : Int)) then some (true, (0 : Int)) else bif decide (t_3 ≥ (0 : Int)) then some (decide (t ≥ (0 : Int)), (0 : Int)) else some (false, (0 : Int))
                            else bif decide (t_3 ≥ (0 : Int)) then some (decide (t ≥ (0 : Int)), (0 : Int)) else some (false, (0 : Int))
                        else none
                      else none
                  else none
                else none
        else none
      else none
    else none
noncomputable def pdBetween_E : Env (dens [.bool, .int .i64]) := envOf S.tab [(24, mkF [.sl (.st [.int .u64, .int .u64])] [.sl (.st [.bool, .sl (.int .u64), .sl (.int .u64), .bool, .sl (.int .u64), .sl (.int .u64)]), .bool] pdPlacesF), (25, mkF [.st [.bool, .sl (.int .u64), .sl (.int .u64)]] [.int .i64] raSignF), (26, mkF [.st [.bool, .sl (.int .u64), .sl (.int .u64), .bool, .sl (.int .u64), .sl (.int .u64)], .st [.bool, .sl (.int .u64), .sl (.int .u64), .bool, .sl (.int .u64), .sl (.int .u64)], .st [.bool, .sl (.int .u64), .sl (.int .u64), .bool, .sl (.int .u64), .sl (.int .u64)]] [.st [.bool, .sl (.int .u64), .sl (.int .u64)]] pdAreaF), (44, mkF [.st [.bool, .sl (.int .u64), .sl (.int .u64), .bool, .sl (.int .u64), .sl (.int .u64)], .st [.bool, .sl (.int .u64), .sl (.int .u64), .bool, .sl (.int .u64), .sl (.int .u64)]] [.int .i64] pdOrderF)] Tryz.f13 [6, 7] [.bool, .int .i64]
theorem pdBetween_s0 (r : Rec (dens [.bool, .int .i64])) (a : List AV) (b : List AV) (c : List AV) : evT pdBetween_E pdBetween_h r 3000 false [.code (bodyOf Tryz.f13)] (T0 0 [.agg (etaL [.int .u64, .int .u64] 0 a), .agg (etaL [.int .u64, .int .u64] 0 b), .agg (etaL [.int .u64, .int .u64] 0 c)]) [] = pdBetween_b0  a b c := by kernel_rfl
theorem pdBetween_ev (k : Nat) (a : List AV) (b : List AV) (c : List AV) : evM pdBetween_E pdBetween_h 3000 k [.code (bodyOf Tryz.f13)] (T0 0 [.agg (etaL [.int .u64, .int .u64] 0 a), .agg (etaL [.int .u64, .int .u64] 0 b), .agg (etaL [.int .u64, .int .u64] 0 c)]) [] = pdBetween_b0  a b c := by
  exact pdBetween_s0 _ a b c
def pdNearer_h : Nat → Option Head := hintOf []
def pdNearer_b0  (a : List AV) (b : List AV) (c : List AV) (d : List AV) : Option (Int × Int) :=
  Option.bind
  (pdPlacesF
    [AV.agg [AV.int .u64 (AV.toInt (aget a 0)), AV.int .u64 (AV.toInt (aget a 1))],
      AV.agg [AV.int .u64 (AV.toInt (aget b 0)), AV.int .u64 (AV.toInt (aget b 1))],
      AV.agg [AV.int .u64 (AV.toInt (aget c 0)), AV.int .u64 (AV.toInt (aget c 1))],
      AV.agg [AV.int .u64 (AV.toInt (aget d 0)), AV.int .u64 (AV.toInt (aget d 1))]])
  fun t =>
  bif !t.2 then some ((0 : Int), (220 : Int))
  else
    bif inRange (0 : Int) (List.length t.1) then
      bif inRange (1 : Int) (List.length t.1) then
        Option.bind
          (pdLessF
            ([AV.bool (AV.toBool (aget (AV.flds (aget t.1 0)) 0)), AV.ints .u64 (AV.asInts (aget (AV.flds (aget t.1 0)) 1)),
                AV.ints .u64 (AV.asInts (aget (AV.flds (aget t.1 0)) 2)), AV.bool (AV.toBool (aget (AV.flds (aget t.1 0)) 3)),
                AV.ints .u64 (AV.asInts (aget (AV.flds (aget t.1 0)) 4)), AV.ints .u64 (AV.asInts (aget (AV.flds (aget t.1 0)) 5))],
              [AV.bool (AV.toBool (aget (AV.flds (aget t.1 1)) 0)), AV.ints .u64 (AV.asInts (aget (AV.flds (aget t.1 1)) 1)),
                AV.ints .u64 (AV.asInts (aget (AV.flds (aget t.1 1)) 2)), AV.bool (AV.toBool (aget (AV.flds (aget t.1 1)) 3)),
                AV.ints .u64 (AV.asInts (aget (AV.flds (aget t.1 1)) 4)), AV.ints .u64 (AV.asInts (aget (AV.flds (aget t.1 1)) 5))]))
          fun t_1 =>
          Option.bind
            (pdSquareF
              [AV.bool (AV.toBool (aget t_1 0)), AV.ints .u64 (AV.asInts (aget t_1 1)), AV.ints .u64 (AV.asInts (aget t_1 2)),
                AV.bool (AV.toBool (aget t_1 3)), AV.ints .u64 (AV.asInts (aget t_1 4)), AV.ints .u64 (AV.asInts (aget t_1 5))])
            fun t_2 =>
            bif inRange (2 : Int) (List.length t.1) then
              bif inRange (3 : Int) (List.length t.1) then
                Option.bind
                  (pdLessF
                    ([AV.bool (AV.toBool (aget (AV.flds (aget t.1 2)) 0)), AV.ints .u64 (AV.asInts (aget (AV.flds (aget t.1 2)) 1)),
                        AV.ints .u64 (AV.asInts (aget (AV.flds (aget t.1 2)) 2)), AV.bool (AV.toBool (aget (AV.flds (aget t.1 2)) 3)),
                        AV.ints .u64 (AV.asInts (aget (AV.flds (aget t.1 2)) 4)), AV.ints .u64 (AV.asInts (aget (AV.flds (aget t.1 2)) 5))],
                      [AV.bool (AV.toBool (aget (AV.flds (aget t.1 3)) 0)), AV.ints .u64 (AV.asInts (aget (AV.flds (aget t.1 3)) 1)),
                        AV.ints .u64 (AV.asInts (aget (AV.flds (aget t.1 3)) 2)), AV.bool (AV.toBool (aget (AV.flds (aget t.1 3)) 3)),
                        AV.ints .u64 (AV.asInts (aget (AV.flds (aget t.1 3)) 4)), AV.ints .u64 (AV.asInts (aget (AV.flds (aget t.1 3)) 5))]))
                  fun t =>
                  Option.bind
                    (pdSquareF
                      [AV.bool (AV.toBool (aget t 0)), AV.ints .u64 (AV.asInts (aget t 1)), AV.ints .u64 (AV.asInts (aget t 2)),
                        AV.bool (AV.toBool (aget t 3)), AV.ints .u64 (AV.asInts (aget t 4)), AV.ints .u64 (AV.asInts (aget t 5))])
                    fun t =>
                    Option.bind
                      (pdCompareF
                        ([AV.bool (AV.toBool (aget t_2 0)), AV.ints .u64 (AV.asInts (aget t_2 1)), AV.ints .u64 (AV.asInts (aget t_2 2))],
                          [AV.bool (AV.toBool (aget t 0)), AV.ints .u64 (AV.asInts (aget t 1)), AV.ints .u64 (AV.asInts (aget t 2))]))
                      fun t => some (t, (0 : Int))
              else none
            else none
      else none
    else none
noncomputable def pdNearer_E : Env (dens [.int .i64, .int .i64]) := envOf S.tab [(24, mkF [.sl (.st [.int .u64, .int .u64])] [.sl (.st [.bool, .sl (.int .u64), .sl (.int .u64), .bool, .sl (.int .u64), .sl (.int .u64)]), .bool] pdPlacesF), (34, mkF [.st [.bool, .sl (.int .u64), .sl (.int .u64), .bool, .sl (.int .u64), .sl (.int .u64)]] [.st [.bool, .sl (.int .u64), .sl (.int .u64)]] pdSquareF), (33, mkF [.st [.bool, .sl (.int .u64), .sl (.int .u64), .bool, .sl (.int .u64), .sl (.int .u64)], .st [.bool, .sl (.int .u64), .sl (.int .u64), .bool, .sl (.int .u64), .sl (.int .u64)]] [.st [.bool, .sl (.int .u64), .sl (.int .u64), .bool, .sl (.int .u64), .sl (.int .u64)]] pdLessF), (46, mkF [.st [.bool, .sl (.int .u64), .sl (.int .u64)], .st [.bool, .sl (.int .u64), .sl (.int .u64)]] [.int .i64] pdCompareF)] Tryz.f15 [8, 9] [.int .i64, .int .i64]
theorem pdNearer_s0 (r : Rec (dens [.int .i64, .int .i64])) (a : List AV) (b : List AV) (c : List AV) (d : List AV) : evT pdNearer_E pdNearer_h r 3000 false [.code (bodyOf Tryz.f15)] (T0 0 [.agg (etaL [.int .u64, .int .u64] 0 a), .agg (etaL [.int .u64, .int .u64] 0 b), .agg (etaL [.int .u64, .int .u64] 0 c), .agg (etaL [.int .u64, .int .u64] 0 d)]) [] = pdNearer_b0  a b c d := by kernel_rfl
theorem pdNearer_ev (k : Nat) (a : List AV) (b : List AV) (c : List AV) (d : List AV) : evM pdNearer_E pdNearer_h 3000 k [.code (bodyOf Tryz.f15)] (T0 0 [.agg (etaL [.int .u64, .int .u64] 0 a), .agg (etaL [.int .u64, .int .u64] 0 b), .agg (etaL [.int .u64, .int .u64] 0 c), .agg (etaL [.int .u64, .int .u64] 0 d)]) [] = pdNearer_b0  a b c d := by
  exact pdNearer_s0 _ a b c d
def pdOrd_h : Nat → Option Head := hintOf []
def pdOrd_b0  (a : List AV) (b : List AV) : Option (Int × Int) :=
  Option.bind
  (pdPlacesF
    [AV.agg [AV.int .u64 (AV.toInt (aget a 0)), AV.int .u64 (AV.toInt (aget a 1))],
      AV.agg [AV.int .u64 (AV.toInt (aget b 0)), AV.int .u64 (AV.toInt (aget b 1))]])
  fun t =>
  bif !t.2 then some ((0 : Int), (220 : Int))
  else
    bif inRange (0 : Int) (List.length t.1) then
      bif inRange (1 : Int) (List.length t.1) then
        Option.bind
          (pdOrderF
            ([AV.bool (AV.toBool (aget (AV.flds (aget t.1 0)) 0)), AV.ints .u64 (AV.asInts (aget (AV.flds (aget t.1 0)) 1)),
                AV.ints .u64 (AV.asInts (aget (AV.flds (aget t.1 0)) 2)), AV.bool (AV.toBool (aget (AV.flds (aget t.1 0)) 3)),
                AV.ints .u64 (AV.asInts (aget (AV.flds (aget t.1 0)) 4)), AV.ints .u64 (AV.asInts (aget (AV.flds (aget t.1 0)) 5))],
              [AV.bool (AV.toBool (aget (AV.flds (aget t.1 1)) 0)), AV.ints .u64 (AV.asInts (aget (AV.flds (aget t.1 1)) 1)),
                AV.ints .u64 (AV.asInts (aget (AV.flds (aget t.1 1)) 2)), AV.bool (AV.toBool (aget (AV.flds (aget t.1 1)) 3)),
                AV.ints .u64 (AV.asInts (aget (AV.flds (aget t.1 1)) 4)), AV.ints .u64 (AV.asInts (aget (AV.flds (aget t.1 1)) 5))]))
          fun t => some (t, (0 : Int))
      else none
    else none
noncomputable def pdOrd_E : Env (dens [.int .i64, .int .i64]) := envOf S.tab [(24, mkF [.sl (.st [.int .u64, .int .u64])] [.sl (.st [.bool, .sl (.int .u64), .sl (.int .u64), .bool, .sl (.int .u64), .sl (.int .u64)]), .bool] pdPlacesF), (44, mkF [.st [.bool, .sl (.int .u64), .sl (.int .u64), .bool, .sl (.int .u64), .sl (.int .u64)], .st [.bool, .sl (.int .u64), .sl (.int .u64), .bool, .sl (.int .u64), .sl (.int .u64)]] [.int .i64] pdOrderF)] Tryz.f17 [4, 5] [.int .i64, .int .i64]
theorem pdOrd_s0 (r : Rec (dens [.int .i64, .int .i64])) (a : List AV) (b : List AV) : evT pdOrd_E pdOrd_h r 3000 false [.code (bodyOf Tryz.f17)] (T0 0 [.agg (etaL [.int .u64, .int .u64] 0 a), .agg (etaL [.int .u64, .int .u64] 0 b)]) [] = pdOrd_b0  a b := by kernel_rfl
theorem pdOrd_ev (k : Nat) (a : List AV) (b : List AV) : evM pdOrd_E pdOrd_h 3000 k [.code (bodyOf Tryz.f17)] (T0 0 [.agg (etaL [.int .u64, .int .u64] 0 a), .agg (etaL [.int .u64, .int .u64] 0 b)]) [] = pdOrd_b0  a b := by
  exact pdOrd_s0 _ a b
def pdArea2_h : Nat → Option Head := hintOf []
def pdArea2_b0  (a : List AV) (b : List AV) (c : List AV) : Option (List AV × Int) :=
  Option.bind
  (pdPlacesF
    [AV.agg [AV.int .u64 (AV.toInt (aget a 0)), AV.int .u64 (AV.toInt (aget a 1))],
      AV.agg [AV.int .u64 (AV.toInt (aget b 0)), AV.int .u64 (AV.toInt (aget b 1))],
      AV.agg [AV.int .u64 (AV.toInt (aget c 0)), AV.int .u64 (AV.toInt (aget c 1))]])
  fun t =>
  bif !t.2 then some ([AV.bool false, AV.ints .u64 [], AV.ints .u64 []], (220 : Int))
  else
    bif inRange (0 : Int) (List.length t.1) then
      bif inRange (1 : Int) (List.length t.1) then
        bif inRange (2 : Int) (List.length t.1) then
          Option.bind
            (pdAreaF
              ([AV.bool (AV.toBool (aget (AV.flds (aget t.1 0)) 0)), AV.ints .u64 (AV.asInts (aget (AV.flds (aget t.1 0)) 1)),
                  AV.ints .u64 (AV.asInts (aget (AV.flds (aget t.1 0)) 2)), AV.bool (AV.toBool (aget (AV.flds (aget t.1 0)) 3)),
                  AV.ints .u64 (AV.asInts (aget (AV.flds (aget t.1 0)) 4)), AV.ints .u64 (AV.asInts (aget (AV.flds (aget t.1 0)) 5))],
                [AV.bool (AV.toBool (aget (AV.flds (aget t.1 1)) 0)), AV.ints .u64 (AV.asInts (aget (AV.flds (aget t.1 1)) 1)),
                  AV.ints .u64 (AV.asInts (aget (AV.flds (aget t.1 1)) 2)), AV.bool (AV.toBool (aget (AV.flds (aget t.1 1)) 3)),
                  AV.ints .u64 (AV.asInts (aget (AV.flds (aget t.1 1)) 4)), AV.ints .u64 (AV.asInts (aget (AV.flds (aget t.1 1)) 5))],
                [AV.bool (AV.toBool (aget (AV.flds (aget t.1 2)) 0)), AV.ints .u64 (AV.asInts (aget (AV.flds (aget t.1 2)) 1)),
                  AV.ints .u64 (AV.asInts (aget (AV.flds (aget t.1 2)) 2)), AV.bool (AV.toBool (aget (AV.flds (aget t.1 2)) 3)),
                  AV.ints .u64 (AV.asInts (aget (AV.flds (aget t.1 2)) 4)), AV.ints .u64 (AV.asInts (aget (AV.flds (aget t.1 2)) 5))]))
            fun t => some ([AV.bool (AV.toBool (aget t 0)), AV.ints .u64 (AV.asInts (aget t 1)), AV.ints .u64 (AV.asInts (aget t 2))], (0 : Int))
        else none
      else none
    else none
noncomputable def pdArea2_E : Env (dens [.st [.bool, .sl (.int .u64), .sl (.int .u64)], .int .i64]) := envR S.tab [(24, mkF [.sl (.st [.int .u64, .int .u64])] [.sl (.st [.bool, .sl (.int .u64), .sl (.int .u64), .bool, .sl (.int .u64), .sl (.int .u64)]), .bool] pdPlacesF), (26, mkF [.st [.bool, .sl (.int .u64), .sl (.int .u64), .bool, .sl (.int .u64), .sl (.int .u64)], .st [.bool, .sl (.int .u64), .sl (.int .u64), .bool, .sl (.int .u64), .sl (.int .u64)], .st [.bool, .sl (.int .u64), .sl (.int .u64), .bool, .sl (.int .u64), .sl (.int .u64)]] [.st [.bool, .sl (.int .u64), .sl (.int .u64)]] pdAreaF)] Tryz.f7 [.cell 6 34, .tmp 7] [.st [.bool, .sl (.int .u64), .sl (.int .u64)], .int .i64]
theorem pdArea2_s0 (r : Rec (dens [.st [.bool, .sl (.int .u64), .sl (.int .u64)], .int .i64])) (a : List AV) (b : List AV) (c : List AV) : evT pdArea2_E pdArea2_h r 3000 false [.code (bodyOf Tryz.f7)] (T0 0 [.agg (etaL [.int .u64, .int .u64] 0 a), .agg (etaL [.int .u64, .int .u64] 0 b), .agg (etaL [.int .u64, .int .u64] 0 c)]) [] = pdArea2_b0  a b c := by kernel_rfl
theorem pdArea2_ev (k : Nat) (a : List AV) (b : List AV) (c : List AV) : evM pdArea2_E pdArea2_h 3000 k [.code (bodyOf Tryz.f7)] (T0 0 [.agg (etaL [.int .u64, .int .u64] 0 a), .agg (etaL [.int .u64, .int .u64] 0 b), .agg (etaL [.int .u64, .int .u64] 0 c)]) [] = pdArea2_b0  a b c := by
  exact pdArea2_s0 _ a b c
def num22_h : Nat → Option Head := hintOf []
def num22_b0  (a : Int) : Option (Int) :=
  some a
noncomputable def num22_E : Env (dens [.int .i64]) := envOf S.tab [] Tryz.f9 [2] [.int .i64]
theorem num22_s0 (r : Rec (dens [.int .i64])) (a : Int) : evT num22_E num22_h r 3000 false [.code (bodyOf Tryz.f9)] (T0 0 [.int .i64 a]) [] = num22_b0  a := by kernel_rfl
theorem num22_ev (k : Nat) (a : Int) : evM num22_E num22_h 3000 k [.code (bodyOf Tryz.f9)] (T0 0 [.int .i64 a]) [] = num22_b0  a := by
  exact num22_s0 _ a
end
end Go.RX.S
