/- What functions compute, printed. -/
import Derived.Test.YtkiihodbgdnijaaGreatDoorGe
set_option linter.unusedVariables false
set_option linter.unusedSimpArgs false
namespace Go.RX.S
open Go Go.RX Go.Proofs
noncomputable section
/-! ### plumb/plumblaw09.LexWritten -/
def LexWritten_h : Nat → Option Head := hintOf []
def LexWritten_b0  (a : List AV) (b : ByteArray) (c : ByteArray) : Option (Bool) :=
  Option.bind
  (x9madeF
    [AV.int .i64 (AV.toInt (aget a 0)), AV.int .i64 (AV.toInt (aget a 1)), AV.ints .i64 (AV.asInts (aget a 2)),
      AV.ints .i64 (AV.asInts (aget a 3)), AV.bool (AV.toBool (aget a 4)), AV.bool (AV.toBool (aget a 5)), AV.int .i64 (AV.toInt (aget a 6)),
      AV.bool (AV.toBool (aget a 7)), AV.bool (AV.toBool (aget a 8))])
  fun t =>
  Option.bind (x9aliveF PUnit.unit) fun t_1 =>
    bif !t_1 then some false
    else
      Option.bind
        (xCheckF
          [AV.int .i64 (AV.toInt (aget t.2 0)), AV.bool (AV.toBool (aget t.2 1)), AV.str (AV.toStr (aget t.2 2)),
            AV.int .i64 (AV.toInt (aget t.2 3)), AV.str (AV.toStr (aget t.2 4))])
        fun t_2 =>
        bif !decide (t_2 = (0 : Int)) then some false
        else
          Option.bind (xParseF t.1) fun t_3 =>
            Option.bind (cut9F b) fun t_4 =>
              bif decide (ByteArray.size t_4 + ByteArray.size t.1 ≤ nat_lit 9223372036854775807) then
                bif decide (ByteArray.size (strCat t_4 t.1) + nat_lit 1 ≤ nat_lit 9223372036854775807) then
                  Option.bind (cut9F c) fun t_5 =>
                    bif decide (ByteArray.size (strCat (strCat t_4 t.1) (strOfI [(32 : Int)])) + ByteArray.size t_5 ≤ nat_lit 9223372036854775807) then
                      Option.bind (cut9F b) fun t_6 =>
                        Option.bind (xScanF (strCat (strCat (strCat t_4 t.1) (strOfI [(32 : Int)])) t_5, (↑(ByteArray.size t_6) : Int))) fun t_7 =>
                          Option.bind (cut9F b) fun t_8 =>
                            bif decide (ByteArray.size t_8 + ByteArray.size t.1 ≤ nat_lit 9223372036854775807) then
                              bif decide (ByteArray.size (strCat t_8 t.1) + nat_lit 1 ≤ nat_lit 9223372036854775807) then
                                Option.bind (cut9F c) fun t_9 =>
                                  bif decide (ByteArray.size (strCat (strCat t_8 t.1) (strOfI [(41 : Int)])) + ByteArray.size t_9 ≤ nat_lit 9223372036854775807) then
                                    Option.bind (cut9F b) fun t_10 =>
                                      Option.bind (xScanF (strCat (strCat (strCat t_8 t.1) (strOfI [(41 : Int)])) t_9, (↑(ByteArray.size t_10) : Int))) fun t_11 =>
                                        bif !errSome t_3.2 then
                                          bif !errSome (Prod.snd t_7).2 then
                                            bif !errSome (Prod.snd t_11).2 then
                                              bif
                                                  bif decide (AV.toInt (aget t_3.1 0) = AV.toInt (aget t.2 0)) then
                                                    bif decide (AV.toBool (aget t_3.1 1) = AV.toBool (aget t.2 1)) then
                                                      bif strEq (AV.toStr (aget t_3.1 2)) (AV.toStr (aget t.2 2)) then
                                                        bif decide (AV.toInt (aget t_3.1 3) = AV.toInt (aget t.2 3)) then
                                                          bif strEq (AV.toStr (aget t_3.1 4)) (AV.toStr (aget t.2 4)) then true else false
                                                        else false
                                                      else false
                                                    else false
                                                  else false then
                                                bif
                                                    bif decide (AV.toInt (aget t_7.1 0) = AV.toInt (aget t.2 0)) then
                                                      bif decide (AV.toBool (aget t_7.1 1) = AV.toBool (aget t.2 1)) then
                                                        bif strEq (AV.toStr (aget t_7.1 2)) (AV.toStr (aget t.2 2)) then
                                                          bif decide (AV.toInt (aget t_7.1 3) = AV.toInt (aget t.2 3)) then
                                                            bif strEq (AV.toStr (aget t_7.1 4)) (AV.toStr (aget t.2 4)) then true else false
                                                          else false
                                                        else false
                                                      else false
                                                    else false then
                                                  bif
                                                      bif decide (AV.toInt (aget t_11.1 0) = AV.toInt (aget t.2 0)) then
                                                        bif decide (AV.toBool (aget t_11.1 1) = AV.toBool (aget t.2 1)) then
                                                          bif strEq (AV.toStr (aget t_11.1 2)) (AV.toStr (aget t.2 2)) then
                                                            bif decide (AV.toInt (aget t_11.1 3) = AV.toInt (aget t.2 3)) then
                                                              bif strEq (AV.toStr (aget t_11.1 4)) (AV.toStr (aget t.2 4)) then true else false
                                                            else false
                                                          else false
                                                        else false
                                                      else false then
                                                    Option.bind (cut9F b) fun t_12 =>
                                                      bif decide ((Prod.snd t_7).1 = addI .i64 (↑(ByteArray.size t_12) : Int) (↑(ByteArray.size t.1) : Int)) then
                                                        some (decide ((Prod.snd t_11).1 = (Prod.snd t_7).1))
                                                      else some false
                                                  else some false
                                                else some false
                                              else some false
                                            else some false
                                          else some false
                                        else some false
                                  else none
                              else none
                            else none
                    else none
                else none
              else none
noncomputable def LexWritten_E : Env (dens [.bool]) := envOf S.tab [(30, mkF [.st [.int .i64, .int .i64, .sl (.int .i64), .sl (.int .i64), .bool, .bool, .int .i64, .bool, .bool]] [.str, .st [.int .i64, .bool, .str, .int .i64, .str]] x9madeF), (31, mkF [] [.bool] x9aliveF), (25, mkF [.st [.int .i64, .bool, .str, .int .i64, .str]] [.int .i64] xCheckF), (32, mkF [.str] [.st [.int .i64, .bool, .str, .int .i64, .str], .err] xParseF), (20, mkF [.str] [.str] cut9F), (29, mkF [.str, .int .i64] [.st [.int .i64, .bool, .str, .int .i64, .str], .int .i64, .err] xScanF)] Tryz.f5 [6] [.bool]
theorem LexWritten_s0 (r : Rec (dens [.bool])) (a : List AV) (b : ByteArray) (c : ByteArray) : evT LexWritten_E LexWritten_h r 3000 false [.code (bodyOf Tryz.f5)] (T0 0 [.agg (etaL [.int .i64, .int .i64, .sl (.int .i64), .sl (.int .i64), .bool, .bool, .int .i64, .bool, .bool] 0 a), .str b, .str c]) [] = LexWritten_b0  a b c := by kernel_rfl
theorem LexWritten_ev (k : Nat) (a : List AV) (b : ByteArray) (c : ByteArray) : evM LexWritten_E LexWritten_h 3000 k [.code (bodyOf Tryz.f5)] (T0 0 [.agg (etaL [.int .i64, .int .i64, .sl (.int .i64), .sl (.int .i64), .bool, .bool, .int .i64, .bool, .bool] 0 a), .str b, .str c]) [] = LexWritten_b0  a b c := by
  exact LexWritten_s0 _ a b c

end
end Go.RX.S
