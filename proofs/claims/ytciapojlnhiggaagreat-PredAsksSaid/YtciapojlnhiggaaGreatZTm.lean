/- What functions compute, printed. -/
import Derived.Test.YtciapojlnhiggaaGreatZSr
set_option linter.unusedVariables false
set_option linter.unusedSimpArgs false
namespace Go.RX.S
open Go Go.RX Go.Proofs
noncomputable section
def zAdd_h : Nat → Option Head := hintOf []
def zAdd_b0  (a : List AV) (b : List AV) : Option (List AV) :=
  bif decide (AV.toBool (aget a 0) = AV.toBool (aget b 0)) then
  Option.bind (r3AddF (AV.asInts (aget a 1), AV.asInts (aget b 1))) fun t => some [AV.bool (AV.toBool (aget a 0)), AV.ints .u64 t]
else
  Option.bind (r3CmpF (AV.asInts (aget a 1), AV.asInts (aget b 1))) fun t =>
    bif decide (t ≥ (0 : Int)) then
      Option.bind (r3SubF (AV.asInts (aget a 1), AV.asInts (aget b 1))) fun t => some [AV.bool (AV.toBool (aget a 0)), AV.ints .u64 t]
    else Option.bind (r3SubF (AV.asInts (aget b 1), AV.asInts (aget a 1))) fun t => some [AV.bool (AV.toBool (aget b 0)), AV.ints .u64 t]
noncomputable def zAdd_E : Env (dens [.st [.bool, .sl (.int .u64)]]) := envR S.tab [(70, mkF [.sl (.int .u64), .sl (.int .u64)] [.sl (.int .u64)] r3AddF), (71, mkF [.sl (.int .u64), .sl (.int .u64)] [.int .i64] r3CmpF), (72, mkF [.sl (.int .u64), .sl (.int .u64)] [.sl (.int .u64)] r3SubF)] Tryz.f43 [.cell 4 67] [.st [.bool, .sl (.int .u64)]]
theorem zAdd_s0 (r : Rec (dens [.st [.bool, .sl (.int .u64)]])) (a : List AV) (b : List AV) : evT zAdd_E zAdd_h r 3000 false [.code (bodyOf Tryz.f43)] (T0 0 [.agg (etaL [.bool, .sl (.int .u64)] 0 a), .agg (etaL [.bool, .sl (.int .u64)] 0 b)]) [] = zAdd_b0  a b := by kernel_rfl
theorem zAdd_ev (k : Nat) (a : List AV) (b : List AV) : evM zAdd_E zAdd_h 3000 k [.code (bodyOf Tryz.f43)] (T0 0 [.agg (etaL [.bool, .sl (.int .u64)] 0 a), .agg (etaL [.bool, .sl (.int .u64)] 0 b)]) [] = zAdd_b0  a b := by
  exact zAdd_s0 _ a b
def zSub_h : Nat → Option Head := hintOf []
def zSub_b0  (a : List AV) (b : List AV) : Option (List AV) :=
  Option.bind
  (zAddF
    ([AV.bool (AV.toBool (aget a 0)), AV.ints .u64 (AV.asInts (aget a 1))], [AV.bool !AV.toBool (aget b 0), AV.ints .u64 (AV.asInts (aget b 1))]))
  fun t => some [AV.bool (AV.toBool (aget t 0)), AV.ints .u64 (AV.asInts (aget t 1))]
noncomputable def zSub_E : Env (dens [.st [.bool, .sl (.int .u64)]]) := envR S.tab [(43, mkF [.st [.bool, .sl (.int .u64)], .st [.bool, .sl (.int .u64)]] [.st [.bool, .sl (.int .u64)]] zAddF)] Tryz.f42 [.cell 4 67] [.st [.bool, .sl (.int .u64)]]
theorem zSub_s0 (r : Rec (dens [.st [.bool, .sl (.int .u64)]])) (a : List AV) (b : List AV) : evT zSub_E zSub_h r 3000 false [.code (bodyOf Tryz.f42)] (T0 0 [.agg (etaL [.bool, .sl (.int .u64)] 0 a), .agg (etaL [.bool, .sl (.int .u64)] 0 b)]) [] = zSub_b0  a b := by kernel_rfl
theorem zSub_ev (k : Nat) (a : List AV) (b : List AV) : evM zSub_E zSub_h 3000 k [.code (bodyOf Tryz.f42)] (T0 0 [.agg (etaL [.bool, .sl (.int .u64)] 0 a), .agg (etaL [.bool, .sl (.int .u64)] 0 b)]) [] = zSub_b0  a b := by
  exact zSub_s0 _ a b
def zMul_h : Nat → Option Head := hintOf []
def zMul_b0  (a : List AV) (b : List AV) : Option (List AV) :=
  Option.bind (r3MulF (AV.asInts (aget a 1), AV.asInts (aget b 1))) fun t =>
  some [AV.bool !decide (AV.toBool (aget a 0) = AV.toBool (aget b 0)), AV.ints .u64 t]
noncomputable def zMul_E : Env (dens [.st [.bool, .sl (.int .u64)]]) := envR S.tab [(69, mkF [.sl (.int .u64), .sl (.int .u64)] [.sl (.int .u64)] r3MulF)] Tryz.f41 [.cell 4 67] [.st [.bool, .sl (.int .u64)]]
theorem zMul_s0 (r : Rec (dens [.st [.bool, .sl (.int .u64)]])) (a : List AV) (b : List AV) : evT zMul_E zMul_h r 3000 false [.code (bodyOf Tryz.f41)] (T0 0 [.agg (etaL [.bool, .sl (.int .u64)] 0 a), .agg (etaL [.bool, .sl (.int .u64)] 0 b)]) [] = zMul_b0  a b := by kernel_rfl
theorem zMul_ev (k : Nat) (a : List AV) (b : List AV) : evM zMul_E zMul_h 3000 k [.code (bodyOf Tryz.f41)] (T0 0 [.agg (etaL [.bool, .sl (.int .u64)] 0 a), .agg (etaL [.bool, .sl (.int .u64)] 0 b)]) [] = zMul_b0  a b := by
  exact zMul_s0 _ a b
def zSign_h : Nat → Option Head := hintOf []
def zSign_b0  (a : List AV) : Option (Int) :=
  Option.bind (r3BitsF (AV.asInts (aget a 1))) fun t => bif decide (t = (0 : Int)) then some (0 : Int) else bif AV.toBool (aget a 0) then some (-1 : Int) else some (1 : Int)
noncomputable def zSign_E : Env (dens [.int .i64]) := envOf S.tab [(59, mkF [.sl (.int .u64)] [.int .i64] r3BitsF)] Tryz.f28 [2] [.int .i64]
theorem zSign_s0 (r : Rec (dens [.int .i64])) (a : List AV) : evT zSign_E zSign_h r 3000 false [.code (bodyOf Tryz.f28)] (T0 0 [.agg (etaL [.bool, .sl (.int .u64)] 0 a)]) [] = zSign_b0  a := by kernel_rfl
theorem zSign_ev (k : Nat) (a : List AV) : evM zSign_E zSign_h 3000 k [.code (bodyOf Tryz.f28)] (T0 0 [.agg (etaL [.bool, .sl (.int .u64)] 0 a)]) [] = zSign_b0  a := by
  exact zSign_s0 _ a
def zfin_h : Nat → Option Head := hintOf []
def zfin_b0  (a : Int) : Option (Bool) :=
  some !decide (andI .u64 (shrI .u64 a (52 : Int)) (2047 : Int) = (2047 : Int))
noncomputable def zfin_E : Env (dens [.bool]) := envOf S.tab [] Tryz.f58 [2] [.bool]
theorem zfin_s0 (r : Rec (dens [.bool])) (a : Int) : evT zfin_E zfin_h r 3000 false [.code (bodyOf Tryz.f58)] (T0 0 [.int .u64 a]) [] = zfin_b0  a := by kernel_rfl
theorem zfin_ev (k : Nat) (a : Int) : evM zfin_E zfin_h 3000 k [.code (bodyOf Tryz.f58)] (T0 0 [.int .u64 a]) [] = zfin_b0  a := by
  exact zfin_s0 _ a
def zFin_h : Nat → Option Head := hintOf [(4, ⟨[(0, .same), (3, .same)], 0⟩)]
def zFin_b0 (l4 : List AV → Int → Option Bool) (a : List AV) : Option (Bool) :=
  l4 a (0 : Int)
def zFin_b4 (l4 : List AV → Int → Option Bool) (t0 : List AV) (t3 : Int) : Option (Bool) :=
  bif decide (t3 < (↑(List.length t0) : Int)) then
  bif inRange t3 (List.length t0) then
    Option.bind (zfinF (AV.toInt (aget (AV.flds (aget t0 (Int.toNat t3))) 0))) fun t =>
      bif !t then some false
      else
        bif inRange t3 (List.length t0) then
          Option.bind (zfinF (AV.toInt (aget (AV.flds (aget t0 (Int.toNat t3))) 1))) fun t => bif !t then some false else l4 t0 (addI .i64 t3 (1 : Int))
        else none
  else none
else some true
mutual
def zFin_L4 : Nat → (List AV) → Int → Option (Bool)
  | 0, _, _ => none
  | k + 1, t0, t3 => zFin_b4 (zFin_L4 k) t0 t3
end
noncomputable def zFin_E : Env (dens [.bool]) := envOf S.tab [(58, mkF [.int .u64] [.bool] zfinF)] Tryz.f27 [2] [.bool]
theorem zFin_s0 (r : Rec (dens [.bool])) (a : List AV) : evT zFin_E zFin_h r 3000 false [.code (bodyOf Tryz.f27)] (T0 0 [.list (.st [.int .u64, .int .u64]) a]) [] = zFin_b0 (fun t0 t3 => r (todoOf 4 (bodyOf Tryz.f27)) [(0, AV.list (ETy.st [ETy.int .u64, ETy.int .u64]) t0), (3, AV.int .i64 t3)] []) a := by kernel_rfl
theorem zFin_s4 (r : Rec (dens [.bool])) (t0 : List AV) (t3 : Int) : evT zFin_E zFin_h r 3000 true (todoOf 4 (bodyOf Tryz.f27)) [(0, AV.list (ETy.st [ETy.int .u64, ETy.int .u64]) t0), (3, AV.int .i64 t3)] [] = zFin_b4 (fun t0 t3 => r (todoOf 4 (bodyOf Tryz.f27)) [(0, AV.list (ETy.st [ETy.int .u64, ETy.int .u64]) t0), (3, AV.int .i64 t3)] []) t0 t3 := by kernel_rfl
theorem zFin_k : ∀ k, (∀ (t0 : List AV) (t3 : Int), evK zFin_E zFin_h 3000 k (todoOf 4 (bodyOf Tryz.f27)) [(0, AV.list (ETy.st [ETy.int .u64, ETy.int .u64]) t0), (3, AV.int .i64 t3)] [] = zFin_L4 k t0 t3)
  | 0 => by
    refine ?_ <;> intros <;> rfl
  | k + 1 => by
    have ih := zFin_k k
    refine ?_ <;> intros
    · exact ((zFin_s4 _ _ _).trans (by simp only [ih] <;> rfl))
theorem zFin_ev (k : Nat) (a : List AV) : evM zFin_E zFin_h 3000 k [.code (bodyOf Tryz.f27)] (T0 0 [.list (.st [.int .u64, .int .u64]) a]) [] = zFin_b0 (zFin_L4 k) a := by
  refine (zFin_s0 _ a).trans ?_
  simp only [zFin_k k] <;> rfl
def zWhole_h : Nat → Option Head := hintOf []
def zWhole_b0  (a : Int) : Option (List AV) :=
  bif decide (cvI .i64 (andI .u64 (shrI .u64 a (52 : Int)) (2047 : Int)) > (0 : Int)) then
  Option.bind
    (r3ShlF
      ([orI .u64 (andI .u64 a (4503599627370495 : Int)) (4503599627370496 : Int)],
        subI .i64 (cvI .i64 (andI .u64 (shrI .u64 a (52 : Int)) (2047 : Int))) (1 : Int)))
    fun t => some [AV.bool (decide (shrI .u64 a (63 : Int) = (1 : Int))), AV.ints .u64 t]
else
  Option.bind (r3ShlF ([andI .u64 a (4503599627370495 : Int)], cvI .i64 (andI .u64 (shrI .u64 a (52 : Int)) (2047 : Int)))) fun t =>
    some [AV.bool (decide (shrI .u64 a (63 : Int) = (1 : Int))), AV.ints .u64 t]
noncomputable def zWhole_E : Env (dens [.st [.bool, .sl (.int .u64)]]) := envR S.tab [(31, mkF [.sl (.int .u64), .int .i64] [.sl (.int .u64)] r3ShlF)] Tryz.f68 [.cell 2 67] [.st [.bool, .sl (.int .u64)]]
theorem zWhole_s0 (r : Rec (dens [.st [.bool, .sl (.int .u64)]])) (a : Int) : evT zWhole_E zWhole_h r 3000 false [.code (bodyOf Tryz.f68)] (T0 0 [.int .u64 a]) [] = zWhole_b0  a := by kernel_rfl
theorem zWhole_ev (k : Nat) (a : Int) : evM zWhole_E zWhole_h 3000 k [.code (bodyOf Tryz.f68)] (T0 0 [.int .u64 a]) [] = zWhole_b0  a := by
  exact zWhole_s0 _ a
def zAt_h : Nat → Option Head := hintOf []
def zAt_b0  (a : List AV) : Option (List AV) :=
  Option.bind (zWholeF (AV.toInt (aget a 0))) fun t =>
  Option.bind (zWholeF (AV.toInt (aget a 1))) fun t_1 =>
    some
      [AV.bool (AV.toBool (aget t 0)), AV.ints .u64 (AV.asInts (aget t 1)), AV.bool (AV.toBool (aget t_1 0)),
        AV.ints .u64 (AV.asInts (aget t_1 1))]
noncomputable def zAt_E : Env (dens [.st [.bool, .sl (.int .u64), .bool, .sl (.int .u64)]]) := envR S.tab [(68, mkF [.int .u64] [.st [.bool, .sl (.int .u64)]] zWholeF)] Tryz.f38 [.cell 2 81] [.st [.bool, .sl (.int .u64), .bool, .sl (.int .u64)]]
theorem zAt_s0 (r : Rec (dens [.st [.bool, .sl (.int .u64), .bool, .sl (.int .u64)]])) (a : List AV) : evT zAt_E zAt_h r 3000 false [.code (bodyOf Tryz.f38)] (T0 0 [.agg (etaL [.int .u64, .int .u64] 0 a)]) [] = zAt_b0  a := by kernel_rfl
theorem zAt_ev (k : Nat) (a : List AV) : evM zAt_E zAt_h 3000 k [.code (bodyOf Tryz.f38)] (T0 0 [.agg (etaL [.int .u64, .int .u64] 0 a)]) [] = zAt_b0  a := by
  exact zAt_s0 _ a
def zMinus_h : Nat → Option Head := hintOf []
def zMinus_b0  (a : List AV) (b : List AV) : Option (List AV) :=
  Option.bind
  (zSubF
    ([AV.bool (AV.toBool (aget a 0)), AV.ints .u64 (AV.asInts (aget a 1))],
      [AV.bool (AV.toBool (aget b 0)), AV.ints .u64 (AV.asInts (aget b 1))]))
  fun t =>
  Option.bind
    (zSubF
      ([AV.bool (AV.toBool (aget a 2)), AV.ints .u64 (AV.asInts (aget a 3))],
        [AV.bool (AV.toBool (aget b 2)), AV.ints .u64 (AV.asInts (aget b 3))]))
    fun t_1 =>
    some
      [AV.bool (AV.toBool (aget t 0)), AV.ints .u64 (AV.asInts (aget t 1)), AV.bool (AV.toBool (aget t_1 0)),
        AV.ints .u64 (AV.asInts (aget t_1 1))]
noncomputable def zMinus_E : Env (dens [.st [.bool, .sl (.int .u64), .bool, .sl (.int .u64)]]) := envR S.tab [(42, mkF [.st [.bool, .sl (.int .u64)], .st [.bool, .sl (.int .u64)]] [.st [.bool, .sl (.int .u64)]] zSubF)] Tryz.f39 [.cell 4 81] [.st [.bool, .sl (.int .u64), .bool, .sl (.int .u64)]]
theorem zMinus_s0 (r : Rec (dens [.st [.bool, .sl (.int .u64), .bool, .sl (.int .u64)]])) (a : List AV) (b : List AV) : evT zMinus_E zMinus_h r 3000 false [.code (bodyOf Tryz.f39)] (T0 0 [.agg (etaL [.bool, .sl (.int .u64), .bool, .sl (.int .u64)] 0 a), .agg (etaL [.bool, .sl (.int .u64), .bool, .sl (.int .u64)] 0 b)]) [] = zMinus_b0  a b := by kernel_rfl
theorem zMinus_ev (k : Nat) (a : List AV) (b : List AV) : evM zMinus_E zMinus_h 3000 k [.code (bodyOf Tryz.f39)] (T0 0 [.agg (etaL [.bool, .sl (.int .u64), .bool, .sl (.int .u64)] 0 a), .agg (etaL [.bool, .sl (.int .u64), .bool, .sl (.int .u64)] 0 b)]) [] = zMinus_b0  a b := by
  exact zMinus_s0 _ a b
def zCross_h : Nat → Option Head := hintOf []
def zCross_b0  (a : List AV) (b : List AV) : Option (List AV) :=
  Option.bind
  (zMulF
    ([AV.bool (AV.toBool (aget a 0)), AV.ints .u64 (AV.asInts (aget a 1))],
      [AV.bool (AV.toBool (aget b 2)), AV.ints .u64 (AV.asInts (aget b 3))]))
  fun t =>
  Option.bind
    (zMulF
      ([AV.bool (AV.toBool (aget a 2)), AV.ints .u64 (AV.asInts (aget a 3))],
        [AV.bool (AV.toBool (aget b 0)), AV.ints .u64 (AV.asInts (aget b 1))]))
    fun t_1 =>
    Option.bind
      (zSubF
        ([AV.bool (AV.toBool (aget t 0)), AV.ints .u64 (AV.asInts (aget t 1))],
          [AV.bool (AV.toBool (aget t_1 0)), AV.ints .u64 (AV.asInts (aget t_1 1))]))
      fun t => some [AV.bool (AV.toBool (aget t 0)), AV.ints .u64 (AV.asInts (aget t 1))]
noncomputable def zCross_E : Env (dens [.st [.bool, .sl (.int .u64)]]) := envR S.tab [(42, mkF [.st [.bool, .sl (.int .u64)], .st [.bool, .sl (.int .u64)]] [.st [.bool, .sl (.int .u64)]] zSubF), (41, mkF [.st [.bool, .sl (.int .u64)], .st [.bool, .sl (.int .u64)]] [.st [.bool, .sl (.int .u64)]] zMulF)] Tryz.f60 [.cell 4 67] [.st [.bool, .sl (.int .u64)]]
theorem zCross_s0 (r : Rec (dens [.st [.bool, .sl (.int .u64)]])) (a : List AV) (b : List AV) : evT zCross_E zCross_h r 3000 false [.code (bodyOf Tryz.f60)] (T0 0 [.agg (etaL [.bool, .sl (.int .u64), .bool, .sl (.int .u64)] 0 a), .agg (etaL [.bool, .sl (.int .u64), .bool, .sl (.int .u64)] 0 b)]) [] = zCross_b0  a b := by kernel_rfl
theorem zCross_ev (k : Nat) (a : List AV) (b : List AV) : evM zCross_E zCross_h 3000 k [.code (bodyOf Tryz.f60)] (T0 0 [.agg (etaL [.bool, .sl (.int .u64), .bool, .sl (.int .u64)] 0 a), .agg (etaL [.bool, .sl (.int .u64), .bool, .sl (.int .u64)] 0 b)]) [] = zCross_b0  a b := by
  exact zCross_s0 _ a b
def zTurn_h : Nat → Option Head := hintOf []
def zTurn_b0  (a : List AV) (b : List AV) (c : List AV) : Option (List AV) :=
  Option.bind (zAtF [AV.int .u64 (AV.toInt (aget a 0)), AV.int .u64 (AV.toInt (aget a 1))]) fun t =>
  Option.bind (zAtF [AV.int .u64 (AV.toInt (aget b 0)), AV.int .u64 (AV.toInt (aget b 1))]) fun t_1 =>
    Option.bind
      (zMinusF
        ([AV.bool (AV.toBool (aget t_1 0)), AV.ints .u64 (AV.asInts (aget t_1 1)), AV.bool (AV.toBool (aget t_1 2)),
            AV.ints .u64 (AV.asInts (aget t_1 3))],
          [AV.bool (AV.toBool (aget t 0)), AV.ints .u64 (AV.asInts (aget t 1)), AV.bool (AV.toBool (aget t 2)),
            AV.ints .u64 (AV.asInts (aget t 3))]))
      fun t_2 =>
      Option.bind (zAtF [AV.int .u64 (AV.toInt (aget c 0)), AV.int .u64 (AV.toInt (aget c 1))]) fun t_3 =>
        Option.bind
          (zMinusF
            ([AV.bool (AV.toBool (aget t_3 0)), AV.ints .u64 (AV.asInts (aget t_3 1)), AV.bool (AV.toBool (aget t_3 2)),
                AV.ints .u64 (AV.asInts (aget t_3 3))],
              [AV.bool (AV.toBool (aget t 0)), AV.ints .u64 (AV.asInts (aget t 1)), AV.bool (AV.toBool (aget t 2)),
                AV.ints .u64 (AV.asInts (aget t 3))]))
          fun t =>
          Option.bind
            (zCrossF
              ([AV.bool (AV.toBool (aget t_2 0)), AV.ints .u64 (AV.asInts (aget t_2 1)), AV.bool (AV.toBool (aget t_2 2)),
                  AV.ints .u64 (AV.asInts (aget t_2 3))],
                [AV.bool (AV.toBool (aget t 0)), AV.ints .u64 (AV.asInts (aget t 1)), AV.bool (AV.toBool (aget t 2)),
                  AV.ints .u64 (AV.asInts (aget t 3))]))
            fun t => some [AV.bool (AV.toBool (aget t 0)), AV.ints .u64 (AV.asInts (aget t 1))]
noncomputable def zTurn_E : Env (dens [.st [.bool, .sl (.int .u64)]]) := envR S.tab [(38, mkF [.st [.int .u64, .int .u64]] [.st [.bool, .sl (.int .u64), .bool, .sl (.int .u64)]] zAtF), (39, mkF [.st [.bool, .sl (.int .u64), .bool, .sl (.int .u64)], .st [.bool, .sl (.int .u64), .bool, .sl (.int .u64)]] [.st [.bool, .sl (.int .u64), .bool, .sl (.int .u64)]] zMinusF), (60, mkF [.st [.bool, .sl (.int .u64), .bool, .sl (.int .u64)], .st [.bool, .sl (.int .u64), .bool, .sl (.int .u64)]] [.st [.bool, .sl (.int .u64)]] zCrossF)] Tryz.f29 [.cell 6 67] [.st [.bool, .sl (.int .u64)]]
theorem zTurn_s0 (r : Rec (dens [.st [.bool, .sl (.int .u64)]])) (a : List AV) (b : List AV) (c : List AV) : evT zTurn_E zTurn_h r 3000 false [.code (bodyOf Tryz.f29)] (T0 0 [.agg (etaL [.int .u64, .int .u64] 0 a), .agg (etaL [.int .u64, .int .u64] 0 b), .agg (etaL [.int .u64, .int .u64] 0 c)]) [] = zTurn_b0  a b c := by kernel_rfl
theorem zTurn_ev (k : Nat) (a : List AV) (b : List AV) (c : List AV) : evM zTurn_E zTurn_h 3000 k [.code (bodyOf Tryz.f29)] (T0 0 [.agg (etaL [.int .u64, .int .u64] 0 a), .agg (etaL [.int .u64, .int .u64] 0 b), .agg (etaL [.int .u64, .int .u64] 0 c)]) [] = zTurn_b0  a b c := by
  exact zTurn_s0 _ a b c
def zOrient_h : Nat → Option Head := hintOf []
def zOrient_b0  (a : List AV) (b : List AV) (c : List AV) : Option (Int × Int) :=
  Option.bind
  (fin22F
    [AV.agg [AV.int .u64 (AV.toInt (aget a 0)), AV.int .u64 (AV.toInt (aget a 1))],
      AV.agg [AV.int .u64 (AV.toInt (aget b 0)), AV.int .u64 (AV.toInt (aget b 1))],
      AV.agg [AV.int .u64 (AV.toInt (aget c 0)), AV.int .u64 (AV.toInt (aget c 1))]])
  fun t =>
  bif !t then some ((0 : Int), (220 : Int))
  else
    Option.bind
      (zTurnF
        ([AV.int .u64 (AV.toInt (aget a 0)), AV.int .u64 (AV.toInt (aget a 1))],
          [AV.int .u64 (AV.toInt (aget b 0)), AV.int .u64 (AV.toInt (aget b 1))],
          [AV.int .u64 (AV.toInt (aget c 0)), AV.int .u64 (AV.toInt (aget c 1))]))
      fun t => Option.bind (zSignF [AV.bool (AV.toBool (aget t 0)), AV.ints .u64 (AV.asInts (aget t 1))]) fun t => some (t, (0 : Int))
noncomputable def zOrient_E : Env (dens [.int .i64, .int .i64]) := envOf S.tab [(27, mkF [.sl (.st [.int .u64, .int .u64])] [.bool] fin22F), (29, mkF [.st [.int .u64, .int .u64], .st [.int .u64, .int .u64], .st [.int .u64, .int .u64]] [.st [.bool, .sl (.int .u64)]] zTurnF), (28, mkF [.st [.bool, .sl (.int .u64)]] [.int .i64] zSignF)] Tryz.f6 [6, 7] [.int .i64, .int .i64]
theorem zOrient_s0 (r : Rec (dens [.int .i64, .int .i64])) (a : List AV) (b : List AV) (c : List AV) : evT zOrient_E zOrient_h r 3000 false [.code (bodyOf Tryz.f6)] (T0 0 [.agg (etaL [.int .u64, .int .u64] 0 a), .agg (etaL [.int .u64, .int .u64] 0 b), .agg (etaL [.int .u64, .int .u64] 0 c)]) [] = zOrient_b0  a b c := by kernel_rfl
theorem zOrient_ev (k : Nat) (a : List AV) (b : List AV) (c : List AV) : evM zOrient_E zOrient_h 3000 k [.code (bodyOf Tryz.f6)] (T0 0 [.agg (etaL [.int .u64, .int .u64] 0 a), .agg (etaL [.int .u64, .int .u64] 0 b), .agg (etaL [.int .u64, .int .u64] 0 c)]) [] = zOrient_b0  a b c := by
  exact zOrient_s0 _ a b c
def zArea2_h : Nat → Option Head := hintOf []
def zArea2_b0  (a : List AV) (b : List AV) (c : List AV) : Option (List AV × Int) :=
  Option.bind
  (fin22F
    [AV.agg [AV.int .u64 (AV.toInt (aget a 0)), AV.int .u64 (AV.toInt (aget a 1))],
      AV.agg [AV.int .u64 (AV.toInt (aget b 0)), AV.int .u64 (AV.toInt (aget b 1))],
      AV.agg [AV.int .u64 (AV.toInt (aget c 0)), AV.int .u64 (AV.toInt (aget c 1))]])
  fun t =>
  bif !t then some ([AV.bool false, AV.ints .u64 [], AV.ints .u64 []], (220 : Int))
  else
    Option.bind
      (zTurnF
        ([AV.int .u64 (AV.toInt (aget a 0)), AV.int .u64 (AV.toInt (aget a 1))],
          [AV.int .u64 (AV.toInt (aget b 0)), AV.int .u64 (AV.toInt (aget b 1))],
          [AV.int .u64 (AV.toInt (aget c 0)), AV.int .u64 (AV.toInt (aget c 1))]))
      fun t =>
      Option.bind (r3ShlF ([(1 : Int)], (2148 : Int))) fun t_1 =>
        Option.bind (r3LowestF (AV.asInts (aget t 1), t_1)) fun t_2 =>
          bif AV.toBool (aget t 0) then some ([AV.bool (decide ((↑(List.length t_2.1) : Int) > (0 : Int))), AV.ints .u64 t_2.1, AV.ints .u64 t_2.2], (0 : Int))
          else some ([AV.bool false, AV.ints .u64 t_2.1, AV.ints .u64 t_2.2], (0 : Int))
noncomputable def zArea2_E : Env (dens [.st [.bool, .sl (.int .u64), .sl (.int .u64)], .int .i64]) := envL S.tab [(27, mkF [.sl (.st [.int .u64, .int .u64])] [.bool] fin22F), (29, mkF [.st [.int .u64, .int .u64], .st [.int .u64, .int .u64], .st [.int .u64, .int .u64]] [.st [.bool, .sl (.int .u64)]] zTurnF), (30, mkF [.sl (.int .u64), .sl (.int .u64)] [.sl (.int .u64), .sl (.int .u64)] r3LowestF), (31, mkF [.sl (.int .u64), .int .i64] [.sl (.int .u64)] r3ShlF)] Tryz.f8 [.cell 6 34, .tmp 7] [.st [.bool, .sl (.int .u64), .sl (.int .u64)], .int .i64]
theorem zArea2_s0 (r : Rec (dens [.st [.bool, .sl (.int .u64), .sl (.int .u64)], .int .i64])) (a : List AV) (b : List AV) (c : List AV) : evT zArea2_E zArea2_h r 3000 false [.code (bodyOf Tryz.f8)] (T0 0 [.agg (etaL [.int .u64, .int .u64] 0 a), .agg (etaL [.int .u64, .int .u64] 0 b), .agg (etaL [.int .u64, .int .u64] 0 c)]) [] = zArea2_b0  a b c := by kernel_rfl
theorem zArea2_ev (k : Nat) (a : List AV) (b : List AV) (c : List AV) : evM zArea2_E zArea2_h 3000 k [.code (bodyOf Tryz.f8)] (T0 0 [.agg (etaL [.int .u64, .int .u64] 0 a), .agg (etaL [.int .u64, .int .u64] 0 b), .agg (etaL [.int .u64, .int .u64] 0 c)]) [] = zArea2_b0  a b c := by
  exact zArea2_s0 _ a b c
def zSquare_h : Nat → Option Head := hintOf []
def zSquare_b0  (a : List AV) : Option (List AV) :=
  Option.bind
  (zMulF
    ([AV.bool (AV.toBool (aget a 0)), AV.ints .u64 (AV.asInts (aget a 1))],
      [AV.bool (AV.toBool (aget a 0)), AV.ints .u64 (AV.asInts (aget a 1))]))
  fun t =>
  Option.bind
    (zMulF
      ([AV.bool (AV.toBool (aget a 2)), AV.ints .u64 (AV.asInts (aget a 3))],
        [AV.bool (AV.toBool (aget a 2)), AV.ints .u64 (AV.asInts (aget a 3))]))
    fun t_1 =>
    Option.bind
      (zAddF
        ([AV.bool (AV.toBool (aget t 0)), AV.ints .u64 (AV.asInts (aget t 1))],
          [AV.bool (AV.toBool (aget t_1 0)), AV.ints .u64 (AV.asInts (aget t_1 1))]))
      fun t => some [AV.bool (AV.toBool (aget t 0)), AV.ints .u64 (AV.asInts (aget t 1))]
noncomputable def zSquare_E : Env (dens [.st [.bool, .sl (.int .u64)]]) := envR S.tab [(43, mkF [.st [.bool, .sl (.int .u64)], .st [.bool, .sl (.int .u64)]] [.st [.bool, .sl (.int .u64)]] zAddF), (41, mkF [.st [.bool, .sl (.int .u64)], .st [.bool, .sl (.int .u64)]] [.st [.bool, .sl (.int .u64)]] zMulF)] Tryz.f40 [.cell 2 67] [.st [.bool, .sl (.int .u64)]]
theorem zSquare_s0 (r : Rec (dens [.st [.bool, .sl (.int .u64)]])) (a : List AV) : evT zSquare_E zSquare_h r 3000 false [.code (bodyOf Tryz.f40)] (T0 0 [.agg (etaL [.bool, .sl (.int .u64), .bool, .sl (.int .u64)] 0 a)]) [] = zSquare_b0  a := by kernel_rfl
theorem zSquare_ev (k : Nat) (a : List AV) : evM zSquare_E zSquare_h 3000 k [.code (bodyOf Tryz.f40)] (T0 0 [.agg (etaL [.bool, .sl (.int .u64), .bool, .sl (.int .u64)] 0 a)]) [] = zSquare_b0  a := by
  exact zSquare_s0 _ a
def zInCircle_h : Nat → Option Head := hintOf []
def zInCircle_b0  (a : List AV) (b : List AV) (c : List AV) (d : List AV) : Option (Int × Int) :=
  Option.bind
  (fin22F
    [AV.agg [AV.int .u64 (AV.toInt (aget a 0)), AV.int .u64 (AV.toInt (aget a 1))],
      AV.agg [AV.int .u64 (AV.toInt (aget b 0)), AV.int .u64 (AV.toInt (aget b 1))],
      AV.agg [AV.int .u64 (AV.toInt (aget c 0)), AV.int .u64 (AV.toInt (aget c 1))],
      AV.agg [AV.int .u64 (AV.toInt (aget d 0)), AV.int .u64 (AV.toInt (aget d 1))]])
  fun t =>
  bif !t then some ((0 : Int), (220 : Int))
  else
    Option.bind (zAtF [AV.int .u64 (AV.toInt (aget d 0)), AV.int .u64 (AV.toInt (aget d 1))]) fun t =>
      Option.bind (zAtF [AV.int .u64 (AV.toInt (aget a 0)), AV.int .u64 (AV.toInt (aget a 1))]) fun t_1 =>
        Option.bind
          (zMinusF
            ([AV.bool (AV.toBool (aget t_1 0)), AV.ints .u64 (AV.asInts (aget t_1 1)), AV.bool (AV.toBool (aget t_1 2)),
                AV.ints .u64 (AV.asInts (aget t_1 3))],
              [AV.bool (AV.toBool (aget t 0)), AV.ints .u64 (AV.asInts (aget t 1)), AV.bool (AV.toBool (aget t 2)),
                AV.ints .u64 (AV.asInts (aget t 3))]))
          fun t_2 =>
          Option.bind (zAtF [AV.int .u64 (AV.toInt (aget b 0)), AV.int .u64 (AV.toInt (aget b 1))]) fun t_3 =>
            Option.bind
              (zMinusF
                ([AV.bool (AV.toBool (aget t_3 0)), AV.ints .u64 (AV.asInts (aget t_3 1)), AV.bool (AV.toBool (aget t_3 2)),
                    AV.ints .u64 (AV.asInts (aget t_3 3))],
                  [AV.bool (AV.toBool (aget t 0)), AV.ints .u64 (AV.asInts (aget t 1)), AV.bool (AV.toBool (aget t 2)),
                    AV.ints .u64 (AV.asInts (aget t 3))]))
              fun t_4 =>
              Option.bind (zAtF [AV.int .u64 (AV.toInt (aget c 0)), AV.int .u64 (AV.toInt (aget c 1))]) fun t_5 =>
                Option.bind
                  (zMinusF
                    ([AV.bool (AV.toBool (aget t_5 0)), AV.ints .u64 (AV.asInts (aget t_5 1)), AV.bool (AV.toBool (aget t_5 2)),
                        AV.ints .u64 (AV.asInts (aget t_5 3))],
                      [AV.bool (AV.toBool (aget t 0)), AV.ints .u64 (AV.asInts (aget t 1)), AV.bool (AV.toBool (aget t 2)),
                        AV.ints .u64 (AV.asInts (aget t 3))]))
                  fun t =>
                  Option.bind
                    (zSquareF
                      [AV.bool (AV.toBool (aget t_2 0)), AV.ints .u64 (AV.asInts (aget t_2 1)), AV.bool (AV.toBool (aget t_2 2)),
                        AV.ints .u64 (AV.asInts (aget t_2 3))])
                    fun t_6 =>
                    Option.bind
                      (zSquareF
                        [AV.bool (AV.toBool (aget t_4 0)), AV.ints .u64 (AV.asInts (aget t_4 1)), AV.bool (AV.toBool (aget t_4 2)),
                          AV.ints .u64 (AV.asInts (aget t_4 3))])
                      fun t_7 =>
                      Option.bind
                        (zSquareF
                          [AV.bool (AV.toBool (aget t 0)), AV.ints .u64 (AV.asInts (aget t 1)), AV.bool (AV.toBool (aget t 2)),
                            AV.ints .u64 (AV.asInts (aget t 3))])
                        fun t_8 =>
                        Option.bind
                          (zMulF
                            ([AV.bool (AV.toBool (aget t_4 2)), AV.ints .u64 (AV.asInts (aget t_4 3))],
                              [AV.bool (AV.toBool (aget t_8 0)), AV.ints .u64 (AV.asInts (aget t_8 1))]))
                          fun t_9 =>
                          Option.bind
                            (zMulF
                              ([AV.bool (AV.toBool (aget t 2)), AV.ints .u64 (AV.asInts (aget t 3))],
                                [AV.bool (AV.toBool (aget t_7 0)), AV.ints .u64 (AV.asInts (aget t_7 1))]))
                            fun t_10 =>
                            Option.bind
                              (zSubF
                                ([AV.bool (AV.toBool (aget t_9 0)), AV.ints .u64 (AV.asInts (aget t_9 1))],
                                  [AV.bool (AV.toBool (aget t_10 0)), AV.ints .u64 (AV.asInts (aget t_10 1))]))
                              fun t_11 =>
                              Option.bind
                                (zMulF
                                  ([AV.bool (AV.toBool (aget t_2 0)), AV.ints .u64 (AV.asInts (aget t_2 1))],
                                    [AV.bool (AV.toBool (aget t_11 0)), AV.ints .u64 (AV.asInts (aget t_11 1))]))
                                fun t_12 =>
                                Option.bind
                                  (zMulF
                                    ([AV.bool (AV.toBool (aget t_4 0)), AV.ints .u64 (AV.asInts (aget t_4 1))],
                                      [AV.bool (AV.toBool (aget t_8 0)), AV.ints .u64 (AV.asInts (aget t_8 1))]))
                                  fun t_13 =>
                                  Option.bind
                                    (zMulF
                                      ([AV.bool (AV.toBool (aget t 0)), AV.ints .u64 (AV.asInts (aget t 1))],
                                        [AV.bool (AV.toBool (aget t_7 0)), AV.ints .u64 (AV.asInts (aget t_7 1))]))
                                    fun t_14 =>
                                    Option.bind
                                      (zSubF
                                        ([AV.bool (AV.toBool (aget t_13 0)), AV.ints .u64 (AV.asInts (aget t_13 1))],
                                          [AV.bool (AV.toBool (aget t_14 0)), AV.ints .u64 (AV.asInts (aget t_14 1))]))
                                      fun t_15 =>
                                      Option.bind
                                        (zMulF
                                          ([AV.bool (AV.toBool (aget t_2 2)), AV.ints .u64 (AV.asInts (aget t_2 3))],
                                            [AV.bool (AV.toBool (aget t_15 0)), AV.ints .u64 (AV.asInts (aget t_15 1))]))
                                        fun t_16 =>
                                        Option.bind
                                          (zMulF
                                            ([AV.bool (AV.toBool (aget t_4 0)), AV.ints .u64 (AV.asInts (aget t_4 1))],
                                              [AV.bool (AV.toBool (aget t 2)), AV.ints .u64 (AV.asInts (aget t 3))]))
                                          fun t_17 =>
                                          Option.bind
                                            (zMulF
                                              ([AV.bool (AV.toBool (aget t 0)), AV.ints .u64 (AV.asInts (aget t 1))],
                                                [AV.bool (AV.toBool (aget t_4 2)), AV.ints .u64 (AV.asInts (aget t_4 3))]))
                                            fun t =>
                                            Option.bind
                                              (zSubF
                                                ([AV.bool (AV.toBool (aget t_17 0)), AV.ints .u64 (AV.asInts (aget t_17 1))],
                                                  [AV.bool (AV.toBool (aget t 0)), AV.ints .u64 (AV.asInts (aget t 1))]))
                                              fun t =>
                                              Option.bind
                                                (zMulF
                                                  ([AV.bool (AV.toBool (aget t_6 0)), AV.ints .u64 (AV.asInts (aget t_6 1))],
                                                    [AV.bool (AV.toBool (aget t 0)), AV.ints .u64 (AV.asInts (aget t 1))]))
                                                fun t =>
                                                Option.bind
                                                  (zSubF
                                                    ([AV.bool (AV.toBool (aget t_12 0)), AV.ints .u64 (AV.asInts (aget t_12 1))],
                                                      [AV.bool (AV.toBool (aget t_16 0)), AV.ints .u64 (AV.asInts (aget t_16 1))]))
                                                  fun t_18 =>
                                                  Option.bind
                                                    (zAddF
                                                      ([AV.bool (AV.toBool (aget t_18 0)), AV.ints .u64 (AV.asInts (aget t_18 1))],
                                                        [AV.bool (AV.toBool (aget t 0)), AV.ints .u64 (AV.asInts (aget t 1))]))
                                                    fun t =>
                                                    Option.bind (zSignF [AV.bool (AV.toBool (aget t 0)), AV.ints .u64 (AV.asInts (aget t 1))]) fun t => some (t, (0 : Int))
noncomputable def zInCircle_E : Env (dens [.int .i64, .int .i64]) := envOf S.tab [(27, mkF [.sl (.st [.int .u64, .int .u64])] [.bool] fin22F), (38, mkF [.st [.int .u64, .int .u64]] [.st [.bool, .sl (.int .u64), .bool, .sl (.int .u64)]] zAtF), (39, mkF [.st [.bool, .sl (.int .u64), .bool, .sl (.int .u64)], .st [.bool, .sl (.int .u64), .bool, .sl (.int .u64)]] [.st [.bool, .sl (.int .u64), .bool, .sl (.int .u64)]] zMinusF), (40, mkF [.st [.bool, .sl (.int .u64), .bool, .sl (.int .u64)]] [.st [.bool, .sl (.int .u64)]] zSquareF), (41, mkF [.st [.bool, .sl (.int .u64)], .st [.bool, .sl (.int .u64)]] [.st [.bool, .sl (.int .u64)]] zMulF), (42, mkF [.st [.bool, .sl (.int .u64)], .st [.bool, .sl (.int .u64)]] [.st [.bool, .sl (.int .u64)]] zSubF), (43, mkF [.st [.bool, .sl (.int .u64)], .st [.bool, .sl (.int .u64)]] [.st [.bool, .sl (.int .u64)]] zAddF), (28, mkF [.st [.bool, .sl (.int .u64)]] [.int .i64] zSignF)] Tryz.f12 [8, 9] [.int .i64, .int .i64]
theorem zInCircle_s0 (r : Rec (dens [.int .i64, .int .i64])) (a : List AV) (b : List AV) (c : List AV) (d : List AV) : evT zInCircle_E zInCircle_h r 3000 false [.code (bodyOf Tryz.f12)] (T0 0 [.agg (etaL [.int .u64, .int .u64] 0 a), .agg (etaL [.int .u64, .int .u64] 0 b), .agg (etaL [.int .u64, .int .u64] 0 c), .agg (etaL [.int .u64, .int .u64] 0 d)]) [] = zInCircle_b0  a b c d := by kernel_rfl
theorem zInCircle_ev (k : Nat) (a : List AV) (b : List AV) (c : List AV) (d : List AV) : evM zInCircle_E zInCircle_h 3000 k [.code (bodyOf Tryz.f12)] (T0 0 [.agg (etaL [.int .u64, .int .u64] 0 a), .agg (etaL [.int .u64, .int .u64] 0 b), .agg (etaL [.int .u64, .int .u64] 0 c), .agg (etaL [.int .u64, .int .u64] 0 d)]) [] = zInCircle_b0  a b c d := by
  exact zInCircle_s0 _ a b c d
def zInside_h : Nat → Option Head := hintOf []
def zInside_b0  (a : List AV) (b : List AV) (c : List AV) : Option (Bool) :=
  Option.bind
  (zSubF
    ([AV.bool (AV.toBool (aget c 0)), AV.ints .u64 (AV.asInts (aget c 1))],
      [AV.bool (AV.toBool (aget a 0)), AV.ints .u64 (AV.asInts (aget a 1))]))
  fun t =>
  Option.bind (zSignF [AV.bool (AV.toBool (aget t 0)), AV.ints .u64 (AV.asInts (aget t 1))]) fun t =>
    Option.bind
      (zSubF
        ([AV.bool (AV.toBool (aget c 0)), AV.ints .u64 (AV.asInts (aget c 1))],
          [AV.bool (AV.toBool (aget b 0)), AV.ints .u64 (AV.asInts (aget b 1))]))
      fun t_1 => Option.bind (zSignF [AV.bool (AV.toBool (aget t_1 0)), AV.ints .u64 (AV.asInts (aget t_1 1))]) fun t_2 => some (decide (mulI .i64 t t_2 ≤ (0 : Int)))
noncomputable def zInside_E : Env (dens [.bool]) := envOf S.tab [(28, mkF [.st [.bool, .sl (.int .u64)]] [.int .i64] zSignF), (42, mkF [.st [.bool, .sl (.int .u64)], .st [.bool, .sl (.int .u64)]] [.st [.bool, .sl (.int .u64)]] zSubF)] Tryz.f45 [6] [.bool]
theorem zInside_s0 (r : Rec (dens [.bool])) (a : List AV) (b : List AV) (c : List AV) : evT zInside_E zInside_h r 3000 false [.code (bodyOf Tryz.f45)] (T0 0 [.agg (etaL [.bool, .sl (.int .u64)] 0 a), .agg (etaL [.bool, .sl (.int .u64)] 0 b), .agg (etaL [.bool, .sl (.int .u64)] 0 c)]) [] = zInside_b0  a b c := by kernel_rfl
theorem zInside_ev (k : Nat) (a : List AV) (b : List AV) (c : List AV) : evM zInside_E zInside_h 3000 k [.code (bodyOf Tryz.f45)] (T0 0 [.agg (etaL [.bool, .sl (.int .u64)] 0 a), .agg (etaL [.bool, .sl (.int .u64)] 0 b), .agg (etaL [.bool, .sl (.int .u64)] 0 c)]) [] = zInside_b0  a b c := by
  exact zInside_s0 _ a b c
def zBetween_h : Nat → Option Head := hintOf []
def zBetween_b0  (a : List AV) (b : List AV) (c : List AV) : Option (Bool × Int) :=
  Option.bind
  (fin22F
    [AV.agg [AV.int .u64 (AV.toInt (aget a 0)), AV.int .u64 (AV.toInt (aget a 1))],
      AV.agg [AV.int .u64 (AV.toInt (aget b 0)), AV.int .u64 (AV.toInt (aget b 1))],
      AV.agg [AV.int .u64 (AV.toInt (aget c 0)), AV.int .u64 (AV.toInt (aget c 1))]])
  fun t =>
  bif !t then some (false, (220 : Int))
  else
    Option.bind (zAtF [AV.int .u64 (AV.toInt (aget a 0)), AV.int .u64 (AV.toInt (aget a 1))]) fun t =>
      Option.bind (zAtF [AV.int .u64 (AV.toInt (aget b 0)), AV.int .u64 (AV.toInt (aget b 1))]) fun t_1 =>
        Option.bind (zAtF [AV.int .u64 (AV.toInt (aget c 0)), AV.int .u64 (AV.toInt (aget c 1))]) fun t_2 =>
          Option.bind
            (zTurnF
              ([AV.int .u64 (AV.toInt (aget a 0)), AV.int .u64 (AV.toInt (aget a 1))],
                [AV.int .u64 (AV.toInt (aget b 0)), AV.int .u64 (AV.toInt (aget b 1))],
                [AV.int .u64 (AV.toInt (aget c 0)), AV.int .u64 (AV.toInt (aget c 1))]))
            fun t_3 =>
            Option.bind (zSignF [AV.bool (AV.toBool (aget t_3 0)), AV.ints .u64 (AV.asInts (aget t_3 1))]) fun t_4 =>
              bif decide (t_4 = (0 : Int)) then
                Option.bind
                  (zInsideF
                    ([AV.bool (AV.toBool (aget t 0)), AV.ints .u64 (AV.asInts (aget t 1))],
                      [AV.bool (AV.toBool (aget t_1 0)), AV.ints .u64 (AV.asInts (aget t_1 1))],
                      [AV.bool (AV.toBool (aget t_2 0)), AV.ints .u64 (AV.asInts (aget t_2 1))]))
                  fun t_5 =>
                  bif t_5 then
                    Option.bind
                      (zInsideF
                        ([AV.bool (AV.toBool (aget t 2)), AV.ints .u64 (AV.asInts (aget t 3))],
                          [AV.bool (AV.toBool (aget t_1 2)), AV.ints .u64 (AV.asInts (aget t_1 3))],
                          [AV.bool (AV.toBool (aget t_2 2)), AV.ints .u64 (AV.asInts (aget t_2 3))]))
                      fun t => some (t, (0 : Int))
                  else some (false, (0 : Int))
              else some (false, (0 : Int))
noncomputable def zBetween_E : Env (dens [.bool, .int .i64]) := envOf S.tab [(27, mkF [.sl (.st [.int .u64, .int .u64])] [.bool] fin22F), (38, mkF [.st [.int .u64, .int .u64]] [.st [.bool, .sl (.int .u64), .bool, .sl (.int .u64)]] zAtF), (29, mkF [.st [.int .u64, .int .u64], .st [.int .u64, .int .u64], .st [.int .u64, .int .u64]] [.st [.bool, .sl (.int .u64)]] zTurnF), (28, mkF [.st [.bool, .sl (.int .u64)]] [.int .i64] zSignF), (45, mkF [.st [.bool, .sl (.int .u64)], .st [.bool, .sl (.int .u64)], .st [.bool, .sl (.int .u64)]] [.bool] zInsideF)] Tryz.f14 [6, 7] [.bool, .int .i64]
theorem zBetween_s0 (r : Rec (dens [.bool, .int .i64])) (a : List AV) (b : List AV) (c : List AV) : evT zBetween_E zBetween_h r 3000 false [.code (bodyOf Tryz.f14)] (T0 0 [.agg (etaL [.int .u64, .int .u64] 0 a), .agg (etaL [.int .u64, .int .u64] 0 b), .agg (etaL [.int .u64, .int .u64] 0 c)]) [] = zBetween_b0  a b c := by kernel_rfl
theorem zBetween_ev (k : Nat) (a : List AV) (b : List AV) (c : List AV) : evM zBetween_E zBetween_h 3000 k [.code (bodyOf Tryz.f14)] (T0 0 [.agg (etaL [.int .u64, .int .u64] 0 a), .agg (etaL [.int .u64, .int .u64] 0 b), .agg (etaL [.int .u64, .int .u64] 0 c)]) [] = zBetween_b0  a b c := by
  exact zBetween_s0 _ a b c
def zNearer_h : Nat → Option Head := hintOf []
def zNearer_b0  (a : List AV) (b : List AV) (c : List AV) (d : List AV) : Option (Int × Int) :=
  Option.bind
  (fin22F
    [AV.agg [AV.int .u64 (AV.toInt (aget a 0)), AV.int .u64 (AV.toInt (aget a 1))],
      AV.agg [AV.int .u64 (AV.toInt (aget b 0)), AV.int .u64 (AV.toInt (aget b 1))],
      AV.agg [AV.int .u64 (AV.toInt (aget c 0)), AV.int .u64 (AV.toInt (aget c 1))],
      AV.agg [AV.int .u64 (AV.toInt (aget d 0)), AV.int .u64 (AV.toInt (aget d 1))]])
  fun t =>
  bif !t then some ((0 : Int), (220 : Int))
  else
    Option.bind (zAtF [AV.int .u64 (AV.toInt (aget a 0)), AV.int .u64 (AV.toInt (aget a 1))]) fun t =>
      Option.bind (zAtF [AV.int .u64 (AV.toInt (aget b 0)), AV.int .u64 (AV.toInt (aget b 1))]) fun t_1 =>
        Option.bind
          (zMinusF
            ([AV.bool (AV.toBool (aget t 0)), AV.ints .u64 (AV.asInts (aget t 1)), AV.bool (AV.toBool (aget t 2)),
                AV.ints .u64 (AV.asInts (aget t 3))],
              [AV.bool (AV.toBool (aget t_1 0)), AV.ints .u64 (AV.asInts (aget t_1 1)), AV.bool (AV.toBool (aget t_1 2)),
                AV.ints .u64 (AV.asInts (aget t_1 3))]))
          fun t =>
          Option.bind
            (zSquareF
              [AV.bool (AV.toBool (aget t 0)), AV.ints .u64 (AV.asInts (aget t 1)), AV.bool (AV.toBool (aget t 2)),
                AV.ints .u64 (AV.asInts (aget t 3))])
            fun t =>
            Option.bind (zAtF [AV.int .u64 (AV.toInt (aget c 0)), AV.int .u64 (AV.toInt (aget c 1))]) fun t_2 =>
              Option.bind (zAtF [AV.int .u64 (AV.toInt (aget d 0)), AV.int .u64 (AV.toInt (aget d 1))]) fun t_3 =>
                Option.bind
                  (zMinusF
                    ([AV.bool (AV.toBool (aget t_2 0)), AV.ints .u64 (AV.asInts (aget t_2 1)), AV.bool (AV.toBool (aget t_2 2)),
                        AV.ints .u64 (AV.asInts (aget t_2 3))],
                      [AV.bool (AV.toBool (aget t_3 0)), AV.ints .u64 (AV.asInts (aget t_3 1)), AV.bool (AV.toBool (aget t_3 2)),
                        AV.ints .u64 (AV.asInts (aget t_3 3))]))
                  fun t_4 =>
                  Option.bind
                    (zSquareF
                      [AV.bool (AV.toBool (aget t_4 0)), AV.ints .u64 (AV.asInts (aget t_4 1)), AV.bool (AV.toBool (aget t_4 2)),
                        AV.ints .u64 (AV.asInts (aget t_4 3))])
                    fun t_5 =>
                    Option.bind
                      (zSubF
                        ([AV.bool (AV.toBool (aget t 0)), AV.ints .u64 (AV.asInts (aget t 1))],
                          [AV.bool (AV.toBool (aget t_5 0)), AV.ints .u64 (AV.asInts (aget t_5 1))]))
                      fun t => Option.bind (zSignF [AV.bool (AV.toBool (aget t 0)), AV.ints .u64 (AV.asInts (aget t 1))]) fun t => some (t, (0 : Int))
noncomputable def zNearer_E : Env (dens [.int .i64, .int .i64]) := envOf S.tab [(27, mkF [.sl (.st [.int .u64, .int .u64])] [.bool] fin22F), (38, mkF [.st [.int .u64, .int .u64]] [.st [.bool, .sl (.int .u64), .bool, .sl (.int .u64)]] zAtF), (39, mkF [.st [.bool, .sl (.int .u64), .bool, .sl (.int .u64)], .st [.bool, .sl (.int .u64), .bool, .sl (.int .u64)]] [.st [.bool, .sl (.int .u64), .bool, .sl (.int .u64)]] zMinusF), (40, mkF [.st [.bool, .sl (.int .u64), .bool, .sl (.int .u64)]] [.st [.bool, .sl (.int .u64)]] zSquareF), (42, mkF [.st [.bool, .sl (.int .u64)], .st [.bool, .sl (.int .u64)]] [.st [.bool, .sl (.int .u64)]] zSubF), (28, mkF [.st [.bool, .sl (.int .u64)]] [.int .i64] zSignF)] Tryz.f16 [8, 9] [.int .i64, .int .i64]
theorem zNearer_s0 (r : Rec (dens [.int .i64, .int .i64])) (a : List AV) (b : List AV) (c : List AV) (d : List AV) : evT zNearer_E zNearer_h r 3000 false [.code (bodyOf Tryz.f16)] (T0 0 [.agg (etaL [.int .u64, .int .u64] 0 a), .agg (etaL [.int .u64, .int .u64] 0 b), .agg (etaL [.int .u64, .int .u64] 0 c), .agg (etaL [.int .u64, .int .u64] 0 d)]) [] = zNearer_b0  a b c d := by kernel_rfl
theorem zNearer_ev (k : Nat) (a : List AV) (b : List AV) (c : List AV) (d : List AV) : evM zNearer_E zNearer_h 3000 k [.code (bodyOf Tryz.f16)] (T0 0 [.agg (etaL [.int .u64, .int .u64] 0 a), .agg (etaL [.int .u64, .int .u64] 0 b), .agg (etaL [.int .u64, .int .u64] 0 c), .agg (etaL [.int .u64, .int .u64] 0 d)]) [] = zNearer_b0  a b c d := by
  exact zNearer_s0 _ a b c d
def zCompare_h : Nat → Option Head := hintOf []
def zCompare_b0  (a : List AV) (b : List AV) : Option (Int) :=
  Option.bind (zAtF [AV.int .u64 (AV.toInt (aget a 0)), AV.int .u64 (AV.toInt (aget a 1))]) fun t =>
  Option.bind (zAtF [AV.int .u64 (AV.toInt (aget b 0)), AV.int .u64 (AV.toInt (aget b 1))]) fun t_1 =>
    Option.bind
      (zMinusF
        ([AV.bool (AV.toBool (aget t 0)), AV.ints .u64 (AV.asInts (aget t 1)), AV.bool (AV.toBool (aget t 2)),
            AV.ints .u64 (AV.asInts (aget t 3))],
          [AV.bool (AV.toBool (aget t_1 0)), AV.ints .u64 (AV.asInts (aget t_1 1)), AV.bool (AV.toBool (aget t_1 2)),
            AV.ints .u64 (AV.asInts (aget t_1 3))]))
      fun t =>
      Option.bind (zSignF [AV.bool (AV.toBool (aget t 0)), AV.ints .u64 (AV.asInts (aget t 1))]) fun t_2 =>
        bif !decide (t_2 = (0 : Int)) then Option.bind (zSignF [AV.bool (AV.toBool (aget t 0)), AV.ints .u64 (AV.asInts (aget t 1))]) fun t => some t
        else Option.bind (zSignF [AV.bool (AV.toBool (aget t 2)), AV.ints .u64 (AV.asInts (aget t 3))]) fun t => some t
noncomputable def zCompare_E : Env (dens [.int .i64]) := envOf S.tab [(38, mkF [.st [.int .u64, .int .u64]] [.st [.bool, .sl (.int .u64), .bool, .sl (.int .u64)]] zAtF), (39, mkF [.st [.bool, .sl (.int .u64), .bool, .sl (.int .u64)], .st [.bool, .sl (.int .u64), .bool, .sl (.int .u64)]] [.st [.bool, .sl (.int .u64), .bool, .sl (.int .u64)]] zMinusF), (28, mkF [.st [.bool, .sl (.int .u64)]] [.int .i64] zSignF)] Tryz.f47 [4] [.int .i64]
theorem zCompare_s0 (r : Rec (dens [.int .i64])) (a : List AV) (b : List AV) : evT zCompare_E zCompare_h r 3000 false [.code (bodyOf Tryz.f47)] (T0 0 [.agg (etaL [.int .u64, .int .u64] 0 a), .agg (etaL [.int .u64, .int .u64] 0 b)]) [] = zCompare_b0  a b := by kernel_rfl
theorem zCompare_ev (k : Nat) (a : List AV) (b : List AV) : evM zCompare_E zCompare_h 3000 k [.code (bodyOf Tryz.f47)] (T0 0 [.agg (etaL [.int .u64, .int .u64] 0 a), .agg (etaL [.int .u64, .int .u64] 0 b)]) [] = zCompare_b0  a b := by
  exact zCompare_s0 _ a b
def zOrd_h : Nat → Option Head := hintOf []
def zOrd_b0  (a : List AV) (b : List AV) : Option (Int × Int) :=
  Option.bind
  (fin22F
    [AV.agg [AV.int .u64 (AV.toInt (aget a 0)), AV.int .u64 (AV.toInt (aget a 1))],
      AV.agg [AV.int .u64 (AV.toInt (aget b 0)), AV.int .u64 (AV.toInt (aget b 1))]])
  fun t =>
  bif !t then some ((0 : Int), (220 : Int))
  else
    Option.bind
      (zCompareF
        ([AV.int .u64 (AV.toInt (aget a 0)), AV.int .u64 (AV.toInt (aget a 1))],
          [AV.int .u64 (AV.toInt (aget b 0)), AV.int .u64 (AV.toInt (aget b 1))]))
      fun t => some (t, (0 : Int))
noncomputable def zOrd_E : Env (dens [.int .i64, .int .i64]) := envOf S.tab [(27, mkF [.sl (.st [.int .u64, .int .u64])] [.bool] fin22F), (47, mkF [.st [.int .u64, .int .u64], .st [.int .u64, .int .u64]] [.int .i64] zCompareF)] Tryz.f18 [4, 5] [.int .i64, .int .i64]
theorem zOrd_s0 (r : Rec (dens [.int .i64, .int .i64])) (a : List AV) (b : List AV) : evT zOrd_E zOrd_h r 3000 false [.code (bodyOf Tryz.f18)] (T0 0 [.agg (etaL [.int .u64, .int .u64] 0 a), .agg (etaL [.int .u64, .int .u64] 0 b)]) [] = zOrd_b0  a b := by kernel_rfl
theorem zOrd_ev (k : Nat) (a : List AV) (b : List AV) : evM zOrd_E zOrd_h 3000 k [.code (bodyOf Tryz.f18)] (T0 0 [.agg (etaL [.int .u64, .int .u64] 0 a), .agg (etaL [.int .u64, .int .u64] 0 b)]) [] = zOrd_b0  a b := by
  exact zOrd_s0 _ a b
def same22_h : Nat → Option Head := hintOf [(8, ⟨[(0, .same), (1, .same), (5, .same)], 0⟩)]
def same22_b0 (l8 : List Int → List Int → Int → Option Bool) (a : List Int) (b : List Int) : Option (Bool) :=
  bif !decide ((↑(List.length a) : Int) = (↑(List.length b) : Int)) then some false else l8 a b (0 : Int)
def same22_b8 (l8 : List Int → List Int → Int → Option Bool) (t0 : List Int) (t1 : List Int) (t5 : Int) : Option (Bool) :=
  bif decide (t5 < (↑(List.length t0) : Int)) then
  bif inRange t5 (List.length t0) then bif inRange t5 (List.length t1) then bif !decide (rdI t0 t5 = rdI t1 t5) then some false else l8 t0 t1 (addI .i64 t5 (1 : Int)) else none else none
else some true
mutual
def same22_L8 : Nat → (List Int) → (List Int) → Int → Option (Bool)
  | 0, _, _, _ => none
  | k + 1, t0, t1, t5 => same22_b8 (same22_L8 k) t0 t1 t5
end
noncomputable def same22_E : Env (dens [.bool]) := envOf S.tab [] Tryz.f32 [4] [.bool]
theorem same22_s0 (r : Rec (dens [.bool])) (a : List Int) (b : List Int) : evT same22_E same22_h r 3000 false [.code (bodyOf Tryz.f32)] (T0 0 [.ints .u64 a, .ints .u64 b]) [] = same22_b0 (fun t0 t1 t5 => r (todoOf 8 (bodyOf Tryz.f32)) [(0, AV.ints .u64 t0), (1, AV.ints .u64 t1), (5, AV.int .i64 t5)] []) a b := by kernel_rfl
theorem same22_s8 (r : Rec (dens [.bool])) (t0 : List Int) (t1 : List Int) (t5 : Int) : evT same22_E same22_h r 3000 true (todoOf 8 (bodyOf Tryz.f32)) [(0, AV.ints .u64 t0), (1, AV.ints .u64 t1), (5, AV.int .i64 t5)] [] = same22_b8 (fun t0 t1 t5 => r (todoOf 8 (bodyOf Tryz.f32)) [(0, AV.ints .u64 t0), (1, AV.ints .u64 t1), (5, AV.int .i64 t5)] []) t0 t1 t5 := by kernel_rfl
theorem same22_k : ∀ k, (∀ (t0 : List Int) (t1 : List Int) (t5 : Int), evK same22_E same22_h 3000 k (todoOf 8 (bodyOf Tryz.f32)) [(0, AV.ints .u64 t0), (1, AV.ints .u64 t1), (5, AV.int .i64 t5)] [] = same22_L8 k t0 t1 t5)
  | 0 => by
    refine ?_ <;> intros <;> rfl
  | k + 1 => by
    have ih := same22_k k
    refine ?_ <;> intros
    · exact ((same22_s8 _ _ _ _).trans (by simp only [ih] <;> rfl))
theorem same22_ev (k : Nat) (a : List Int) (b : List Int) : evM same22_E same22_h 3000 k [.code (bodyOf Tryz.f32)] (T0 0 [.ints .u64 a, .ints .u64 b]) [] = same22_b0 (same22_L8 k) a b := by
  refine (same22_s0 _ a b).trans ?_
  simp only [same22_k k] <;> rfl
def sameRat22_h : Nat → Option Head := hintOf []
def sameRat22_b0  (a : List AV) (b : List AV) : Option (Bool) :=
  bif decide (AV.toBool (aget a 0) = AV.toBool (aget b 0)) then
  Option.bind (sameF (AV.asInts (aget a 1), AV.asInts (aget b 1))) fun t =>
    bif t then Option.bind (sameF (AV.asInts (aget a 2), AV.asInts (aget b 2))) fun t => some t else some false
else some false
noncomputable def sameRat22_E : Env (dens [.bool]) := envOf S.tab [(32, mkF [.sl (.int .u64), .sl (.int .u64)] [.bool] sameF)] Tryz.f10 [4] [.bool]
theorem sameRat22_s0 (r : Rec (dens [.bool])) (a : List AV) (b : List AV) : evT sameRat22_E sameRat22_h r 3000 false [.code (bodyOf Tryz.f10)] (T0 0 [.agg (etaL [.bool, .sl (.int .u64), .sl (.int .u64)] 0 a), .agg (etaL [.bool, .sl (.int .u64), .sl (.int .u64)] 0 b)]) [] = sameRat22_b0  a b := by kernel_rfl
theorem sameRat22_ev (k : Nat) (a : List AV) (b : List AV) : evM sameRat22_E sameRat22_h 3000 k [.code (bodyOf Tryz.f10)] (T0 0 [.agg (etaL [.bool, .sl (.int .u64), .sl (.int .u64)] 0 a), .agg (etaL [.bool, .sl (.int .u64), .sl (.int .u64)] 0 b)]) [] = sameRat22_b0  a b := by
  exact sameRat22_s0 _ a b
def PredAsks_h : Nat → Option Head := hintOf []
def PredAsks_b0  (a : List AV) : Option (Bool) :=
  Option.bind
  (pdOrientF
    ([AV.int .u64 (AV.toInt (aget a 0)), AV.int .u64 (AV.toInt (aget a 1))],
      [AV.int .u64 (AV.toInt (aget a 2)), AV.int .u64 (AV.toInt (aget a 3))],
      [AV.int .u64 (AV.toInt (aget a 4)), AV.int .u64 (AV.toInt (aget a 5))]))
  fun t =>
  Option.bind
    (pdOrientF
      ([AV.int .u64 (AV.toInt (aget a 0)), AV.int .u64 (AV.toInt (aget a 1))],
        [AV.int .u64 (AV.toInt (aget a 2)), AV.int .u64 (AV.toInt (aget a 3))],
        [AV.int .u64 (AV.toInt (aget a 4)), AV.int .u64 (AV.toInt (aget a 5))]))
    fun t_1 =>
    Option.bind
      (pdArea2F
        ([AV.int .u64 (AV.toInt (aget a 0)), AV.int .u64 (AV.toInt (aget a 1))],
          [AV.int .u64 (AV.toInt (aget a 2)), AV.int .u64 (AV.toInt (aget a 3))],
          [AV.int .u64 (AV.toInt (aget a 4)), AV.int .u64 (AV.toInt (aget a 5))]))
      fun t_2 =>
      Option.bind
        (pdArea2F
          ([AV.int .u64 (AV.toInt (aget a 0)), AV.int .u64 (AV.toInt (aget a 1))],
            [AV.int .u64 (AV.toInt (aget a 2)), AV.int .u64 (AV.toInt (aget a 3))],
            [AV.int .u64 (AV.toInt (aget a 4)), AV.int .u64 (AV.toInt (aget a 5))]))
        fun t_3 =>
        bif !decide (t.1 = t_1.1) then some false
        else
          Option.bind (num22F t.2) fun t =>
            bif !decide (t = t_1.2) then some false
            else
              Option.bind
                (sameRat22F
                  ([AV.bool (AV.toBool (aget t_2.1 0)), AV.ints .u64 (AV.asInts (aget t_2.1 1)), AV.ints .u64 (AV.asInts (aget t_2.1 2))],
                    [AV.bool (AV.toBool (aget t_3.1 0)), AV.ints .u64 (AV.asInts (aget t_3.1 1)), AV.ints .u64 (AV.asInts (aget t_3.1 2))]))
                fun t =>
                bif !t then some false
                else
                  Option.bind (num22F t_2.2) fun t =>
                    bif !decide (t = t_3.2) then some false
                    else
                      Option.bind
                        (pdInCircleF
                          ([AV.int .u64 (AV.toInt (aget a 0)), AV.int .u64 (AV.toInt (aget a 1))],
                            [AV.int .u64 (AV.toInt (aget a 2)), AV.int .u64 (AV.toInt (aget a 3))],
                            [AV.int .u64 (AV.toInt (aget a 4)), AV.int .u64 (AV.toInt (aget a 5))],
                            [AV.int .u64 (AV.toInt (aget a 6)), AV.int .u64 (AV.toInt (aget a 7))]))
                        fun t =>
                        Option.bind
                          (pdInCircleF
                            ([AV.int .u64 (AV.toInt (aget a 0)), AV.int .u64 (AV.toInt (aget a 1))],
                              [AV.int .u64 (AV.toInt (aget a 2)), AV.int .u64 (AV.toInt (aget a 3))],
                              [AV.int .u64 (AV.toInt (aget a 4)), AV.int .u64 (AV.toInt (aget a 5))],
                              [AV.int .u64 (AV.toInt (aget a 6)), AV.int .u64 (AV.toInt (aget a 7))]))
                          fun t_4 =>
                          bif !decide (t.1 = t_4.1) then some false
                          else
                            Option.bind (num22F t.2) fun t =>
                              bif !decide (t = t_4.2) then some false
                              else
                                Option.bind
                                  (pdBetweenF
                                    ([AV.int .u64 (AV.toInt (aget a 0)), AV.int .u64 (AV.toInt (aget a 1))],
                                      [AV.int .u64 (AV.toInt (aget a 2)), AV.int .u64 (AV.toInt (aget a 3))],
                                      [AV.int .u64 (AV.toInt (aget a 4)), AV.int .u64 (AV.toInt (aget a 5))]))
                                  fun t =>
                                  Option.bind
                                    (pdBetweenF
                                      ([AV.int .u64 (AV.toInt (aget a 0)), AV.int .u64 (AV.toInt (aget a 1))],
                                        [AV.int .u64 (AV.toInt (aget a 2)), AV.int .u64 (AV.toInt (aget a 3))],
                                        [AV.int .u64 (AV.toInt (aget a 4)), AV.int .u64 (AV.toInt (aget a 5))]))
                                    fun t_5 =>
                                    bif !decide (t.1 = t_5.1) then some false
                                    else
                                      Option.bind (num22F t.2) fun t =>
                                        bif !decide (t = t_5.2) then some false
                                        else
                                          Option.bind
                                            (pdNearerF
                                              ([AV.int .u64 (AV.toInt (aget a 0)), AV.int .u64 (AV.toInt (aget a 1))],
                                                [AV.int .u64 (AV.toInt (aget a 2)), AV.int .u64 (AV.toInt (aget a 3))],
                                                [AV.int .u64 (AV.toInt (aget a 4)), AV.int .u64 (AV.toInt (aget a 5))],
                                                [AV.int .u64 (AV.toInt (aget a 6)), AV.int .u64 (AV.toInt (aget a 7))]))
                                            fun t =>
                                            Option.bind
                                              (pdNearerF
                                                ([AV.int .u64 (AV.toInt (aget a 0)), AV.int .u64 (AV.toInt (aget a 1))],
                                                  [AV.int .u64 (AV.toInt (aget a 2)), AV.int .u64 (AV.toInt (aget a 3))],
                                                  [AV.int .u64 (AV.toInt (aget a 4)), AV.int .u64 (AV.toInt (aget a 5))],
                                                  [AV.int .u64 (AV.toInt (aget a 6)), AV.int .u64 (AV.toInt (aget a 7))]))
                                              fun t_6 =>
                                              bif !decide (t.1 = t_6.1) then some false
                                              else
                                                Option.bind (num22F t.2) fun t =>
                                                  bif !decide (t = t_6.2) then some false
                                                  else
                                                    Option.bind
                                                      (pdOrdF
                                                        ([AV.int .u64 (AV.toInt (aget a 0)), AV.int .u64 (AV.toInt (aget a 1))],
                                                          [AV.int .u64 (AV.toInt (aget a 2)), AV.int .u64 (AV.toInt (aget a 3))]))
                                                      fun t =>
                                                      Option.bind
                                                        (pdOrdF
                                                          ([AV.int .u64 (AV.toInt (aget a 0)), AV.int .u64 (AV.toInt (aget a 1))],
                                                            [AV.int .u64 (AV.toInt (aget a 2)), AV.int .u64 (AV.toInt (aget a 3))]))
                                                        fun t_7 => bif decide (t.1 = t_7.1) then Option.bind (num22F t.2) fun t => some (decide (t = t_7.2)) else some false
noncomputable def PredAsks_E : Env (dens [.bool]) := envOf S.tab [(5, mkF [.st [.int .u64, .int .u64], .st [.int .u64, .int .u64], .st [.int .u64, .int .u64]] [.int .i64, .int .i64] pdOrientF), (6, mkF [.st [.int .u64, .int .u64], .st [.int .u64, .int .u64], .st [.int .u64, .int .u64]] [.int .i64, .int .i64] pdOrientF), (7, mkF [.st [.int .u64, .int .u64], .st [.int .u64, .int .u64], .st [.int .u64, .int .u64]] [.st [.bool, .sl (.int .u64), .sl (.int .u64)], .int .i64] pdArea2F), (8, mkF [.st [.int .u64, .int .u64], .st [.int .u64, .int .u64], .st [.int .u64, .int .u64]] [.st [.bool, .sl (.int .u64), .sl (.int .u64)], .int .i64] pdArea2F), (10, mkF [.st [.bool, .sl (.int .u64), .sl (.int .u64)], .st [.bool, .sl (.int .u64), .sl (.int .u64)]] [.bool] sameRat22F), (9, mkF [.int .i64] [.int .i64] num22F), (11, mkF [.st [.int .u64, .int .u64], .st [.int .u64, .int .u64], .st [.int .u64, .int .u64], .st [.int .u64, .int .u64]] [.int .i64, .int .i64] pdInCircleF), (12, mkF [.st [.int .u64, .int .u64], .st [.int .u64, .int .u64], .st [.int .u64, .int .u64], .st [.int .u64, .int .u64]] [.int .i64, .int .i64] pdInCircleF), (13, mkF [.st [.int .u64, .int .u64], .st [.int .u64, .int .u64], .st [.int .u64, .int .u64]] [.bool, .int .i64] pdBetweenF), (14, mkF [.st [.int .u64, .int .u64], .st [.int .u64, .int .u64], .st [.int .u64, .int .u64]] [.bool, .int .i64] pdBetweenF), (15, mkF [.st [.int .u64, .int .u64], .st [.int .u64, .int .u64], .st [.int .u64, .int .u64], .st [.int .u64, .int .u64]] [.int .i64, .int .i64] pdNearerF), (16, mkF [.st [.int .u64, .int .u64], .st [.int .u64, .int .u64], .st [.int .u64, .int .u64], .st [.int .u64, .int .u64]] [.int .i64, .int .i64] pdNearerF), (17, mkF [.st [.int .u64, .int .u64], .st [.int .u64, .int .u64]] [.int .i64, .int .i64] pdOrdF), (18, mkF [.st [.int .u64, .int .u64], .st [.int .u64, .int .u64]] [.int .i64, .int .i64] pdOrdF)] Tryz.f3 [2] [.bool]
theorem PredAsks_s0 (r : Rec (dens [.bool])) (a : List AV) : evT PredAsks_E PredAsks_h r 3000 false [.code (bodyOf Tryz.f3)] (T0 0 [.agg (etaL [.int .u64, .int .u64, .int .u64, .int .u64, .int .u64, .int .u64, .int .u64, .int .u64] 0 a)]) [] = PredAsks_b0  a := by kernel_rfl
theorem PredAsks_ev (k : Nat) (a : List AV) : evM PredAsks_E PredAsks_h 3000 k [.code (bodyOf Tryz.f3)] (T0 0 [.agg (etaL [.int .u64, .int .u64, .int .u64, .int .u64, .int .u64, .int .u64, .int .u64, .int .u64] 0 a)]) [] = PredAsks_b0  a := by
  exact PredAsks_s0 _ a
end
end Go.RX.S
