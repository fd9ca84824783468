/- What functions compute, printed. -/
import Derived.Test.YtciapojlnhiggaaSp
set_option linter.unusedVariables false
set_option linter.unusedSimpArgs false
namespace Go.RX.S
open Go Go.RX Go.Proofs
noncomputable section
/-! ### plumb/f64.Join -/
def join_h : Nat → Option Head := hintOf []
def join_b0  (a : Bool) (b : Int) (c : Int) : Option (Int × Int) :=
  bif a then
  bif decide (b = (0 : Int)) then some ((9223372036854775808 : Int), (0 : Int))
  else
    bif decide (c < (-1137 : Int)) then some ((0 : Int), (61 : Int))
    else
      bif decide (c > (1023 : Int)) then some ((0 : Int), (61 : Int))
      else
        Option.bind (wZerosF b) fun t =>
          bif decide ((0 : Int) ≤ t) then
            Option.bind (wLenF (shrI .u64 b t)) fun t_1 =>
              bif decide (t_1 > (53 : Int)) then some ((0 : Int), (61 : Int))
              else
                bif decide (addI .i64 (addI .i64 c t) t_1 > (1024 : Int)) then some ((0 : Int), (61 : Int))
                else
                  bif decide (addI .i64 c t < (-1074 : Int)) then some ((0 : Int), (61 : Int))
                  else
                    bif decide ((0 : Int) ≤ minI (subI .i64 (53 : Int) t_1) (addI .i64 (addI .i64 c t) (1074 : Int))) then
                      bif
                          decide
                            (shlI .u64 (shrI .u64 b t) (minI (subI .i64 (53 : Int) t_1) (addI .i64 (addI .i64 c t) (1074 : Int))) < (4503599627370496 : Int)) then
                        some
                          (orI .u64 (9223372036854775808 : Int)
                              (shlI .u64 (shrI .u64 b t) (minI (subI .i64 (53 : Int) t_1) (addI .i64 (addI .i64 c t) (1074 : Int)))),
                            (0 : Int))
                      else
                        some
                          (orI .u64
                              (orI .u64 (9223372036854775808 : Int)
                                (shlI .u64
                                  (cvI .u64
                                    (addI .i64 (subI .i64 (addI .i64 c t) (minI (subI .i64 (53 : Int) t_1) (addI .i64 (addI .i64 c t) (1074 : Int))))
                                      (1075 : Int)))
                                  (52 : Int)))
                              (andI .u64 (shlI .u64 (shrI .u64 b t) (minI (subI .i64 (53 : Int) t_1) (addI .i64 (addI .i64 c t) (1074 : Int))))
                                (4503599627370495 : Int)),
                            (0 : Int))
                    else none
          else none
else
  bif decide (b = (0 : Int)) then some ((0 : Int), (0 : Int))
  else
    bif decide (c < (-1137 : Int)) then some ((0 : Int), (61 : Int))
    else
      bif decide (c > (1023 : Int)) then some ((0 : Int), (61 : Int))
      else
        Option.bind (wZerosF b) fun t =>
          bif decide ((0 : Int) ≤ t) then
            Option.bind (wLenF (shrI .u64 b t)) fun t_1 =>
              bif decide (t_1 > (53 : Int)) then some ((0 : Int), (61 : Int))
              else
                bif decide (addI .i64 (addI .i64 c t) t_1 > (1024 : Int)) then some ((0 : Int), (61 : Int))
                else
                  bif decide (addI .i64 c t < (-1074 : Int)) then some ((0 : Int), (61 : Int))
                  else
                    bif decide ((0 : Int) ≤ minI (subI .i64 (53 : Int) t_1) (addI .i64 (addI .i64 c t) (1074 : Int))) then
                      bif
                          decide
                            (shlI .u64 (shrI .u64 b t) (minI (subI .i64 (53 : Int) t_1) (addI .i64 (addI .i64 c t) (1074 : Int))) < (4503599627370496 : Int)) then
                        some
                          (orI .u64 (0 : Int) (shlI .u64 (shrI .u64 b t) (minI (subI .i64 (53 : Int) t_1) (addI .i64 (addI .i64 c t) (1074 : Int)))),
                            (0 : Int))
                      else
                        some
                          (orI .u64
                              (orI .u64 (0 : Int)
                                (shlI .u64
                                  (cvI .u64
                                    (addI .i64 (subI .i64 (addI .i64 c t) (minI (subI .i64 (53 : Int) t_1) (addI .i64 (addI .i64 c t) (1074 : Int))))
                                      (1075 : Int)))
                                  (52 : Int)))
                              (andI .u64 (shlI .u64 (shrI .u64 b t) (minI (subI .i64 (53 : Int) t_1) (addI .i64 (addI .i64 c t) (1074 : Int))))
                                (4503599627370495 : Int)),
                            (0 : Int))
                    else none
          else none
noncomputable def join_E : Env (dens [.int .u64, .int .i64]) := envOf S.tab [(73, mkF [.int .u64] [.int .i64] wZerosF), (74, mkF [.int .u64] [.int .i64] wLenF)] Try.f55 [6, 7] [.int .u64, .int .i64]
theorem join_s0 (r : Rec (dens [.int .u64, .int .i64])) (a : Bool) (b : Int) (c : Int) : evT join_E join_h r 3000 false [.code (bodyOf Try.f55)] (T0 0 [.bool a, .int .u64 b, .int .i64 c]) [] = join_b0  a b c := by kernel_rfl
theorem join_ev (k : Nat) (a : Bool) (b : Int) (c : Int) : evM join_E join_h 3000 k [.code (bodyOf Try.f55)] (T0 0 [.bool a, .int .u64 b, .int .i64 c]) [] = join_b0  a b c := by
  exact join_s0 _ a b c

/-! ### plumb/plumblaw22.pattern -/
def pat22_h : Nat → Option Head := hintOf []
def pat22_b0  (a : Int) (b : Int) : Option (Int) :=
  bif decide (a < (0 : Int)) then Option.bind (joinF (decide (a < (0 : Int)), cvI .u64 (subI .i64 (0 : Int) a), b)) fun t => some t.1
else Option.bind (joinF (decide (a < (0 : Int)), cvI .u64 a, b)) fun t => some t.1
noncomputable def pat22_E : Env (dens [.int .u64]) := envOf S.tab [(55, mkF [.bool, .int .u64, .int .i64] [.int .u64, .int .i64] joinF)] Try.f40 [4] [.int .u64]
theorem pat22_s0 (r : Rec (dens [.int .u64])) (a : Int) (b : Int) : evT pat22_E pat22_h r 3000 false [.code (bodyOf Try.f40)] (T0 0 [.int .i64 a, .int .i64 b]) [] = pat22_b0  a b := by kernel_rfl
theorem pat22_ev (k : Nat) (a : Int) (b : Int) : evM pat22_E pat22_h 3000 k [.code (bodyOf Try.f40)] (T0 0 [.int .i64 a, .int .i64 b]) [] = pat22_b0  a b := by
  exact pat22_s0 _ a b

/-! ### plumb/plumblaw22.within -/
def within22_h : Nat → Option Head := hintOf []
def within22_b0  (a : Int) : Option (Int) :=
  some (remI a (4096 : Int))
noncomputable def within22_E : Env (dens [.int .i64]) := envOf S.tab [] Try.f22 [2] [.int .i64]
theorem within22_s0 (r : Rec (dens [.int .i64])) (a : Int) : evT within22_E within22_h r 3000 false [.code (bodyOf Try.f22)] (T0 0 [.int .i64 a]) [] = within22_b0  a := by kernel_rfl
theorem within22_ev (k : Nat) (a : Int) : evM within22_E within22_h 3000 k [.code (bodyOf Try.f22)] (T0 0 [.int .i64 a]) [] = within22_b0  a := by
  exact within22_s0 _ a

/-! ### plumb/plumblaw22.at -/
def at22_h : Nat → Option Head := hintOf []
def at22_b0  (a : List AV) (b : Int) : Option (List AV) :=
  Option.bind (within22F (AV.toInt (aget a 0))) fun t =>
  Option.bind (pat22F (t, b)) fun t => Option.bind (within22F (AV.toInt (aget a 1))) fun t_1 => Option.bind (pat22F (t_1, b)) fun t_2 => some [AV.int .u64 t, AV.int .u64 t_2]
noncomputable def at22_E : Env (dens [.st [.int .u64, .int .u64]]) := envR S.tab [(22, mkF [.int .i64] [.int .i64] within22F), (40, mkF [.int .i64, .int .i64] [.int .u64] pat22F)] Try.f19 [.cell 4 24] [.st [.int .u64, .int .u64]]
theorem at22_s0 (r : Rec (dens [.st [.int .u64, .int .u64]])) (a : List AV) (b : Int) : evT at22_E at22_h r 3000 false [.code (bodyOf Try.f19)] (T0 0 [.agg (etaL [.int .i64, .int .i64] 0 a), .int .i64 b]) [] = at22_b0  a b := by kernel_rfl
theorem at22_ev (k : Nat) (a : List AV) (b : Int) : evM at22_E at22_h 3000 k [.code (bodyOf Try.f19)] (T0 0 [.agg (etaL [.int .i64, .int .i64] 0 a), .int .i64 b]) [] = at22_b0  a b := by
  exact at22_s0 _ a b

/-! ### plumb/plumblaw22.sign -/
def sign22_h : Nat → Option Head := hintOf []
def sign22_b0  (a : Int) : Option (Int) :=
  bif decide (a < (0 : Int)) then some (-1 : Int) else bif decide (a > (0 : Int)) then some (1 : Int) else some (0 : Int)
noncomputable def sign22_E : Env (dens [.int .i64]) := envOf S.tab [] Try.f21 [2] [.int .i64]
theorem sign22_s0 (r : Rec (dens [.int .i64])) (a : Int) : evT sign22_E sign22_h r 3000 false [.code (bodyOf Try.f21)] (T0 0 [.int .i64 a]) [] = sign22_b0  a := by kernel_rfl
theorem sign22_ev (k : Nat) (a : Int) : evM sign22_E sign22_h 3000 k [.code (bodyOf Try.f21)] (T0 0 [.int .i64 a]) [] = sign22_b0  a := by
  exact sign22_s0 _ a

/-! ### plumb/plumblaw22.side -/
def side22_h : Nat → Option Head := hintOf []
def side22_b0  (a : List AV) (b : List AV) (c : List AV) : Option (Int) :=
  Option.bind (within22F (AV.toInt (aget b 0))) fun t =>
  Option.bind (within22F (AV.toInt (aget a 0))) fun t_1 =>
    Option.bind (within22F (AV.toInt (aget c 1))) fun t_2 =>
      Option.bind (within22F (AV.toInt (aget a 1))) fun t_3 =>
        Option.bind (within22F (AV.toInt (aget b 1))) fun t_4 =>
          Option.bind (within22F (AV.toInt (aget a 1))) fun t_5 =>
            Option.bind (within22F (AV.toInt (aget c 0))) fun t_6 =>
              Option.bind (within22F (AV.toInt (aget a 0))) fun t_7 =>
                some (subI .i64 (mulI .i64 (subI .i64 t t_1) (subI .i64 t_2 t_3)) (mulI .i64 (subI .i64 t_4 t_5) (subI .i64 t_6 t_7)))
noncomputable def side22_E : Env (dens [.int .i64]) := envOf S.tab [(22, mkF [.int .i64] [.int .i64] within22F)] Try.f20 [6] [.int .i64]
theorem side22_s0 (r : Rec (dens [.int .i64])) (a : List AV) (b : List AV) (c : List AV) : evT side22_E side22_h r 3000 false [.code (bodyOf Try.f20)] (T0 0 [.agg (etaL [.int .i64, .int .i64] 0 a), .agg (etaL [.int .i64, .int .i64] 0 b), .agg (etaL [.int .i64, .int .i64] 0 c)]) [] = side22_b0  a b c := by kernel_rfl
theorem side22_ev (k : Nat) (a : List AV) (b : List AV) (c : List AV) : evM side22_E side22_h 3000 k [.code (bodyOf Try.f20)] (T0 0 [.agg (etaL [.int .i64, .int .i64] 0 a), .agg (etaL [.int .i64, .int .i64] 0 b), .agg (etaL [.int .i64, .int .i64] 0 c)]) [] = side22_b0  a b c := by
  exact side22_s0 _ a b c

/-! ### plumb/plumblaw22.far -/
def far22_h : Nat → Option Head := hintOf []
def far22_b0  (a : List AV) (b : List AV) : Option (Int) :=
  Option.bind (within22F (AV.toInt (aget a 0))) fun t =>
  Option.bind (within22F (AV.toInt (aget b 0))) fun t_1 =>
    Option.bind (within22F (AV.toInt (aget a 1))) fun t_2 =>
      Option.bind (within22F (AV.toInt (aget b 1))) fun t_3 =>
        some (addI .i64 (mulI .i64 (subI .i64 t t_1) (subI .i64 t t_1)) (mulI .i64 (subI .i64 t_2 t_3) (subI .i64 t_2 t_3)))
noncomputable def far22_E : Env (dens [.int .i64]) := envOf S.tab [(22, mkF [.int .i64] [.int .i64] within22F)] Try.f23 [4] [.int .i64]
theorem far22_s0 (r : Rec (dens [.int .i64])) (a : List AV) (b : List AV) : evT far22_E far22_h r 3000 false [.code (bodyOf Try.f23)] (T0 0 [.agg (etaL [.int .i64, .int .i64] 0 a), .agg (etaL [.int .i64, .int .i64] 0 b)]) [] = far22_b0  a b := by kernel_rfl
theorem far22_ev (k : Nat) (a : List AV) (b : List AV) : evM far22_E far22_h 3000 k [.code (bodyOf Try.f23)] (T0 0 [.agg (etaL [.int .i64, .int .i64] 0 a), .agg (etaL [.int .i64, .int .i64] 0 b)]) [] = far22_b0  a b := by
  exact far22_s0 _ a b

/-! ### plumb/plumblaw22.PredWhole -/
def PredWhole_h : Nat → Option Head := hintOf []
def PredWhole_b0  (a : List AV) : Option (Bool) :=
  Option.bind (at22F ([AV.int .i64 (AV.toInt (aget a 0)), AV.int .i64 (AV.toInt (aget a 1))], remI (AV.toInt (aget a 8)) (900 : Int))) fun t =>
  Option.bind (at22F ([AV.int .i64 (AV.toInt (aget a 2)), AV.int .i64 (AV.toInt (aget a 3))], remI (AV.toInt (aget a 8)) (900 : Int))) fun t_1 =>
    Option.bind (at22F ([AV.int .i64 (AV.toInt (aget a 4)), AV.int .i64 (AV.toInt (aget a 5))], remI (AV.toInt (aget a 8)) (900 : Int))) fun t_2 =>
      Option.bind (at22F ([AV.int .i64 (AV.toInt (aget a 6)), AV.int .i64 (AV.toInt (aget a 7))], remI (AV.toInt (aget a 8)) (900 : Int))) fun t_3 =>
        Option.bind
          (pdOrientF
            ([AV.int .u64 (AV.toInt (aget t 0)), AV.int .u64 (AV.toInt (aget t 1))],
              [AV.int .u64 (AV.toInt (aget t_1 0)), AV.int .u64 (AV.toInt (aget t_1 1))],
              [AV.int .u64 (AV.toInt (aget t_2 0)), AV.int .u64 (AV.toInt (aget t_2 1))]))
          fun t_4 =>
          Option.bind
            (side22F
              ([AV.int .i64 (AV.toInt (aget a 0)), AV.int .i64 (AV.toInt (aget a 1))],
                [AV.int .i64 (AV.toInt (aget a 2)), AV.int .i64 (AV.toInt (aget a 3))],
                [AV.int .i64 (AV.toInt (aget a 4)), AV.int .i64 (AV.toInt (aget a 5))]))
            fun t_5 =>
            Option.bind (num22F t_4.2) fun t_6 =>
              bif !decide (t_6 = (0 : Int)) then some false
              else
                Option.bind (sign22F t_5) fun t_7 =>
                  bif !decide (t_4.1 = t_7) then some false
                  else
                    Option.bind (within22F (AV.toInt (aget a 0))) fun t_8 =>
                      Option.bind (within22F (AV.toInt (aget a 6))) fun t_9 =>
                        Option.bind (within22F (AV.toInt (aget a 1))) fun t_10 =>
                          Option.bind (within22F (AV.toInt (aget a 7))) fun t_11 =>
                            Option.bind (within22F (AV.toInt (aget a 2))) fun t_12 =>
                              Option.bind (within22F (AV.toInt (aget a 6))) fun t_13 =>
                                Option.bind (within22F (AV.toInt (aget a 3))) fun t_14 =>
                                  Option.bind (within22F (AV.toInt (aget a 7))) fun t_15 =>
                                    Option.bind (within22F (AV.toInt (aget a 4))) fun t_16 =>
                                      Option.bind (within22F (AV.toInt (aget a 6))) fun t_17 =>
                                        Option.bind (within22F (AV.toInt (aget a 5))) fun t_18 =>
                                          Option.bind (within22F (AV.toInt (aget a 7))) fun t_19 =>
                                            Option.bind
                                              (pdInCircleF
                                                ([AV.int .u64 (AV.toInt (aget t 0)), AV.int .u64 (AV.toInt (aget t 1))],
                                                  [AV.int .u64 (AV.toInt (aget t_1 0)), AV.int .u64 (AV.toInt (aget t_1 1))],
                                                  [AV.int .u64 (AV.toInt (aget t_2 0)), AV.int .u64 (AV.toInt (aget t_2 1))],
                                                  [AV.int .u64 (AV.toInt (aget t_3 0)), AV.int .u64 (AV.toInt (aget t_3 1))]))
                                              fun t_20 =>
                                              Option.bind (num22F t_20.2) fun t_21 =>
                                                bif !decide (t_21 = (0 : Int)) then some false
                                                else
                                                  Option.bind
                                                    (sign22F
                                                      (addI .i64
                                                        (subI .i64
                                                          (mulI .i64 (subI .i64 t_8 t_9)
                                                            (subI .i64
                                                              (mulI .i64 (subI .i64 t_14 t_15)
                                                                (addI .i64 (mulI .i64 (subI .i64 t_16 t_17) (subI .i64 t_16 t_17))
                                                                  (mulI .i64 (subI .i64 t_18 t_19) (subI .i64 t_18 t_19))))
                                                              (mulI .i64 (subI .i64 t_18 t_19)
                                                                (addI .i64 (mulI .i64 (subI .i64 t_12 t_13) (subI .i64 t_12 t_13))
                                                                  (mulI .i64 (subI .i64 t_14 t_15) (subI .i64 t_14 t_15))))))
                                                          (mulI .i64 (subI .i64 t_10 t_11)
                                                            (subI .i64
                                                              (mulI .i64 (subI .i64 t_12 t_13)
                                                                (addI .i64 (mulI .i64 (subI .i64 t_16 t_17) (subI .i64 t_16 t_17))
                                                                  (mulI .i64 (subI .i64 t_18 t_19) (subI .i64 t_18 t_19))))
                                                              (mulI .i64 (subI .i64 t_16 t_17)
                                                                (addI .i64 (mulI .i64 (subI .i64 t_12 t_13) (subI .i64 t_12 t_13))
                                                                  (mulI .i64 (subI .i64 t_14 t_15) (subI .i64 t_14 t_15)))))))
                                                        (mulI .i64
                                                          (addI .i64 (mulI .i64 (subI .i64 t_8 t_9) (subI .i64 t_8 t_9))
                                                            (mulI .i64 (subI .i64 t_10 t_11) (subI .i64 t_10 t_11)))
                                                          (subI .i64 (mulI .i64 (subI .i64 t_12 t_13) (subI .i64 t_18 t_19))
                                                            (mulI .i64 (subI .i64 t_16 t_17) (subI .i64 t_14 t_15))))))
                                                    fun t_22 =>
                                                    bif !decide (t_20.1 = t_22) then some false
                                                    else
                                                      Option.bind
                                                        (pdBetweenF
                                                          ([AV.int .u64 (AV.toInt (aget t 0)), AV.int .u64 (AV.toInt (aget t 1))],
                                                            [AV.int .u64 (AV.toInt (aget t_1 0)), AV.int .u64 (AV.toInt (aget t_1 1))],
                                                            [AV.int .u64 (AV.toInt (aget t_2 0)), AV.int .u64 (AV.toInt (aget t_2 1))]))
                                                        fun t_23 =>
                                                        Option.bind (within22F (AV.toInt (aget a 4))) fun t_24 =>
                                                          Option.bind (within22F (AV.toInt (aget a 0))) fun t_25 =>
                                                            Option.bind (within22F (AV.toInt (aget a 4))) fun t_26 =>
                                                              Option.bind (within22F (AV.toInt (aget a 2))) fun t_27 =>
                                                                Option.bind (within22F (AV.toInt (aget a 5))) fun t_28 =>
                                                                  Option.bind (within22F (AV.toInt (aget a 1))) fun t_29 =>
                                                                    Option.bind (within22F (AV.toInt (aget a 5))) fun t_30 =>
                                                                      Option.bind (within22F (AV.toInt (aget a 3))) fun t_31 =>
                                                                        Option.bind (num22F t_23.2) fun t_32 =>
                                                                          bif !decide (t_32 = (0 : Int)) then some false
                                                                          else
                                                                            bif decide (t_5 = (0 : Int)) then
                                                                              bif
                                                                                  !decide
                                                                                      (t_23.1 =
                                                                                        decide
                                                                                          (addI .i64 (mulI .i64 (subI .i64 t_24 t_25) (subI .i64 t_26 t_27))
                                                                                              (mulI .i64 (subI .i64 t_28 t_29) (subI .i64 t_30 t_31)) ≤
                                                                                            (0 : Int))) then
                                                                                some false
                                                                              else
                                                                                Option.bind
                                                                                  (pdNearerF
                                                                                    ([AV.int .u64 (AV.toInt (aget t 0)), AV.int .u64 (AV.toInt (aget t 1))],
                                                                                      [AV.int .u64 (AV.toInt (aget t_1 0)), AV.int .u64 (AV.toInt (aget t_1 1))],
                                                                                      [AV.int .u64 (AV.toInt (aget t_2 0)), AV.int .u64 (AV.toInt (aget t_2 1))],
                                                                                      [AV.int .u64 (AV.toInt (aget t_3 0)), AV.int .u64 (AV.toInt (aget t_3 1))]))
                                                                                  fun t_33 =>
                                                                                  Option.bind (num22F t_33.2) fun t_34 =>
                                                                                    bif !decide (t_34 = (0 : Int)) then some false
                                                                                    else
                                                                                      Option.bind
                                                                                        (far22F
                                                                                          ([AV.int .i64 (AV.toInt (aget a 0)), AV.int .i64 (AV.toInt (aget a 1))],
                                                                                            [AV.int .i64 (AV.toInt (aget a 2)), AV.int .i64 (AV.toInt (aget a 3))]))
                                                                                        fun t_35 =>
                                                                                        Option.bind
                                                                                          (far22F
                                                                                            ([AV.int .i64 (AV.toInt (aget a 4)), AV.int .i64 (AV.toInt (aget a 5))],
                                                                                              [AV.int .i64 (AV.toInt (aget a 6)), AV.int .i64 (AV.toInt (aget a 7))]))
                                                                                          fun t_36 =>
                                                                                          Option.bind (sign22F (subI .i64 t_35 t_36)) fun t_37 =>
                                                                                            bif !decide (t_33.1 = t_37) then some false
                                                                                            else
                                                                                              Option.bind
                                                                                                (pdOrdF
                                                                                                  ([AV.int .u64 (AV.toInt (aget t 0)),
                                                                                                      AV.int .u64 (AV.toInt (aget t 1))],
                                                                                                    [AV.int .u64 (AV.toInt (aget t_1 0)),
                                                                                                      AV.int .u64 (AV.toInt (aget t_1 1))]))
                                                                                                fun t =>
                                                                                                Option.bind (within22F (AV.toInt (aget a 0))) fun t_38 =>
                                                                                                  Option.bind (within22F (AV.toInt (aget a 2))) fun t_39 =>
                                                                                                    Option.bind (sign22F (subI .i64 t_38 t_39)) fun t_40 =>
                                                                                                      bif decide (t_40 = (0 : Int)) then
                                                                                                        Option.bind (within22F (AV.toInt (aget a 1))) fun t_41 =>
                                                                                                          Option.bind (within22F (AV.toInt (aget a 3))) fun t_42 =>
                                                                                                            Option.bind (sign22F (subI .i64 t_41 t_42)) fun t_43 =>
                                                                                                              Option.bind (num22F t.2) fun t_44 =>
                                                                                                                bif decide (t_44 = (0 : Int)) then some (decide (t.1 = t_43)) else some false
                                                                                                      else
                                                                                                        Option.bind (num22F t.2) fun t_41 =>
                                                                                                          bif decide (t_41 = (0 : Int)) then some (decide (t.1 = t_40)) else some false
                                                                            else
                                                                              bif !decide (t_23.1 = false) then some false
                                                                              else
                                                                                Option.bind
                                                                                  (pdNearerF
                                                                                    ([AV.int .u64 (AV.toInt (aget t 0)), AV.int .u64 (AV.toInt (aget t 1))],
                                                                                      [AV.int .u64 (AV.toInt (aget t_1 0)), AV.int .u64 (AV.toInt (aget t_1 1))],
                                                                                      [AV.int .u64 (AV.toInt (aget t_2 0)), AV.int .u64 (AV.toInt (aget t_2 1))],
                                                                                      [AV.int .u64 (AV.toInt (aget t_3 0)), AV.int .u64 (AV.toInt (aget t_3 1))]))
                                                                                  fun t_33 =>
                                                                                  Option.bind (num22F t_33.2) fun t_34 =>
                                                                                    bif !decide (t_34 = (0 : Int)) then some false
                                                                                    else
                                                                                      Option.bind
                                                                                        (far22F
                                                                                          ([AV.int .i64 (AV.toInt (aget a 0)), AV.int .i64 (AV.toInt (aget a 1))],
                                                                                            [AV.int .i64 (AV.toInt (aget a 2)), AV.int .i64 (AV.toInt (aget a 3))]))
                                                                                        fun t_35 =>
                                                                                        Option.bind
                                                                                          (far22F
                                                                                            ([AV.int .i64 (AV.toInt (aget a 4)), AV.int .i64 (AV.toInt (aget a 5))],
                                                                                              [AV.int .i64 (AV.toInt (aget a 6)), AV.int .i64 (AV.toInt (aget a 7))]))
                                                                                          fun t_36 =>
                                                                                          Option.bind (sign22F (subI .i64 t_35 t_36)) fun t_37 =>
                                                                                            bif !decide (t_33.1 = t_37) then some false
                                                                                            else
                                                                                              Option.bind
                                                                                                (pdOrdF
                                                                                                  ([AV.int .u64 (AV.toInt (aget t 0)),
                                                                                                      AV.int .u64 (AV.toInt (aget t 1))],
                                                                                                    [AV.int .u64 (AV.toInt (aget t_1 0)),
                                                                                                      AV.int .u64 (AV.toInt (aget t_1 1))]))
                                                                                                fun t =>
                                                                                                Option.bind (within22F (AV.toInt (aget a 0))) fun t_38 =>
                                                                                                  Option.bind (within22F (AV.toInt (aget a 2))) fun t_39 =>
                                                                                                    Option.bind (sign22F (subI .i64 t_38 t_39)) fun t_40 =>
                                                                                                      bif decide (t_40 = (0 : Int)) then
                                                                                                        Option.bind (within22F (AV.toInt (aget a 1))) fun t_41 =>
                                                                                                          Option.bind (within22F (AV.toInt (aget a 3))) fun t_42 =>
                                                                                                            Option.bind (sign22F (subI .i64 t_41 t_42)) fun t_43 =>
                                                                                                              Option.bind (num22F t.2) fun t_44 =>
                                                                                                                bif decide (t_44 = (0 : Int)) then some (decide (t.1 = t_43)) else some false
                                                                                                      else
                                                                                                        Option.bind (num22F t.2) fun t_41 =>
                                                                                                          bif decide (t_41 = (0 : Int)) then some (decide (t.1 = t_40)) else some false
noncomputable def PredWhole_E : Env (dens [.bool]) := envOf S.tab [(19, mkF [.st [.int .i64, .int .i64], .int .i64] [.st [.int .u64, .int .u64]] at22F), (10, mkF [.st [.int .u64, .int .u64], .st [.int .u64, .int .u64], .st [.int .u64, .int .u64]] [.int .i64, .int .i64] pdOrientF), (20, mkF [.st [.int .i64, .int .i64], .st [.int .i64, .int .i64], .st [.int .i64, .int .i64]] [.int .i64] side22F), (13, mkF [.int .i64] [.int .i64] num22F), (21, mkF [.int .i64] [.int .i64] sign22F), (22, mkF [.int .i64] [.int .i64] within22F), (11, mkF [.st [.int .u64, .int .u64], .st [.int .u64, .int .u64], .st [.int .u64, .int .u64], .st [.int .u64, .int .u64]] [.int .i64, .int .i64] pdInCircleF), (18, mkF [.st [.int .u64, .int .u64], .st [.int .u64, .int .u64], .st [.int .u64, .int .u64]] [.bool, .int .i64] pdBetweenF), (16, mkF [.st [.int .u64, .int .u64], .st [.int .u64, .int .u64], .st [.int .u64, .int .u64], .st [.int .u64, .int .u64]] [.int .i64, .int .i64] pdNearerF), (23, mkF [.st [.int .i64, .int .i64], .st [.int .i64, .int .i64]] [.int .i64] far22F), (17, mkF [.st [.int .u64, .int .u64], .st [.int .u64, .int .u64]] [.int .i64, .int .i64] pdOrdF)] Try.f6 [2] [.bool]
theorem PredWhole_s0 (r : Rec (dens [.bool])) (a : List AV) : evT PredWhole_E PredWhole_h r 3000 false [.code (bodyOf Try.f6)] (T0 0 [.agg (etaL [.int .i64, .int .i64, .int .i64, .int .i64, .int .i64, .int .i64, .int .i64, .int .i64, .int .i64] 0 a)]) [] = PredWhole_b0  a := by kernel_rfl
theorem PredWhole_ev (k : Nat) (a : List AV) : evM PredWhole_E PredWhole_h 3000 k [.code (bodyOf Try.f6)] (T0 0 [.agg (etaL [.int .i64, .int .i64, .int .i64, .int .i64, .int .i64, .int .i64, .int .i64, .int .i64, .int .i64] 0 a)]) [] = PredWhole_b0  a := by
  exact PredWhole_s0 _ a

end
end Go.RX.S
