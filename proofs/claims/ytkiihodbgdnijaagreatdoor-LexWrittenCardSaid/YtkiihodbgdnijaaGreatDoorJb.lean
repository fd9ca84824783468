/- What functions compute, printed. -/
import Derived.Test.YtkiihodbgdnijaaGreatDoorKa
set_option linter.unusedVariables false
set_option linter.unusedSimpArgs false
namespace Go.RX.S
open Go Go.RX Go.Proofs
noncomputable section
/-! ### plumb/plumblaw09.LexLong -/
def LexLong_h : Nat → Option Head := hintOf [(10, ⟨[(0, .same), (5, .same), (6, .vec 5), (7, .same)], 1⟩)]
def LexLong_b0 (l10 : Int → Int → Int → List Int → Option Bool) (a : Int) (b : Int) : Option (Bool) :=
  Option.bind (into9F (a, (40 : Int))) fun t => Option.bind (into9F (b, (9 : Int))) fun t_1 => l10 t (cvI .u8 (addI .i64 (49 : Int) t_1)) (0 : Int) []
def LexLong_b10 (l10 : Int → Int → Int → List Int → Option Bool) (t0 : Int) (t5 : Int) (t7 : Int) (h0 : List Int) : Option (Bool) :=
  bif decide (t7 < (65537 : Int)) then bif decide ((↑(List.length (h0 ++ [t5])) : Int) * (1 : Int) ≤ (140737488355328 : Int)) then l10 t0 t5 (addI .i64 t7 (1 : Int)) (h0 ++ [t5]) else none
else
  Option.bind (xScanF (strOfI h0, (0 : Int))) fun t =>
    bif bif decide ((0 : Int) ≤ subI .i64 (65536 : Int) t0) then decide (subI .i64 (65536 : Int) t0 ≤ (↑(ByteArray.size (strOfI h0)) : Int)) else false then
      bif decide (nat_lit 1 + ByteArray.size (ByteArray.extract (strOfI h0) 0 (Int.toNat (subI .i64 (65536 : Int) t0))) ≤ nat_lit 9223372036854775807) then
        Option.bind (xScanF (strCat (strOfI [(32 : Int)]) (ByteArray.extract (strOfI h0) 0 (Int.toNat (subI .i64 (65536 : Int) t0))), (1 : Int))) fun t_1 =>
          bif errSome (Prod.snd t).2 then some false
          else
            bif errSome (Prod.snd t_1).2 then some false
            else
              bif !decide ((Prod.snd t).1 = (65536 : Int)) then some false
              else
                bif !decide ((↑(ByteArray.size (AV.toStr (aget t.1 2))) : Int) = (65536 : Int)) then some false
                else
                  bif !decide ((Prod.snd t_1).1 = addI .i64 (subI .i64 (65536 : Int) t0) (1 : Int)) then some false
                  else
                    bif bif decide ((0 : Int) ≤ subI .i64 (65536 : Int) t0) then decide (subI .i64 (65536 : Int) t0 ≤ (↑(ByteArray.size (strOfI h0)) : Int)) else false then
                      bif !strEq (AV.toStr (aget t_1.1 2)) (ByteArray.extract (strOfI h0) 0 (Int.toNat (subI .i64 (65536 : Int) t0))) then some false
                      else
                        bif decide (nat_lit 1 + ByteArray.size (strOfI h0) ≤ nat_lit 9223372036854775807) then
                          Option.bind (xScanF (strCat (strOfI [(45 : Int)]) (strOfI h0), (0 : Int))) fun t_2 =>
                            bif !errSome (Prod.snd t_2).2 then
                              bif decide ((Prod.snd t_2).1 = (65536 : Int)) then
                                bif decide ((↑(ByteArray.size (AV.toStr (aget t_2.1 2))) : Int) = (65535 : Int)) then
                                  bif AV.toBool (aget t_2.1 1) then
                                    Option.bind
                                      (xCheckF
                                        [AV.int .i64 (AV.toInt (aget t.1 0)), AV.bool (AV.toBool (aget t.1 1)), AV.str (AV.toStr (aget t.1 2)),
                                          AV.int .i64 (AV.toInt (aget t.1 3)), AV.str (AV.toStr (aget t.1 4))])
                                      fun t =>
                                      bif decide (t = (0 : Int)) then
                                        Option.bind (xCheckF [AV.int .i64 (1 : Int), AV.bool false, AV.str (strOfI h0), AV.int .i64 (0 : Int), AV.str (strOfI [])]) fun t =>
                                          some (decide (t = (90 : Int)))
                                      else some false
                                  else some false
                                else some false
                              else some false
                            else some false
                        else none
                    else none
      else none
    else none
mutual
def LexLong_L10 : Nat → Int → Int → Int → (List Int) → Option (Bool)
  | 0, _, _, _, _ => none
  | k + 1, t0, t5, t7, h0 => LexLong_b10 (LexLong_L10 k) t0 t5 t7 h0
end
noncomputable def LexLong_E : Env (dens [.bool]) := envOf S.tab [(28, mkF [.int .i64, .int .i64] [.int .i64] into9F), (29, mkF [.str, .int .i64] [.st [.int .i64, .bool, .str, .int .i64, .str], .int .i64, .err] xScanF), (25, mkF [.st [.int .i64, .bool, .str, .int .i64, .str]] [.int .i64] xCheckF)] Tryz.f4 [4] [.bool]
theorem LexLong_s0 (r : Rec (dens [.bool])) (a : Int) (b : Int) : evT LexLong_E LexLong_h r 3000 false [.code (bodyOf Tryz.f4)] (T0 0 [.int .i64 a, .int .i64 b]) [] = LexLong_b0 (fun t0 t5 t7 h0 => r (todoOf 10 (bodyOf Tryz.f4)) [(0, AV.int .i64 t0), (5, AV.int .u8 t5), (6, AV.vec 0 1), (7, AV.int .i64 t7)] [Blk.I 5 .u8 h0]) a b := by kernel_rfl
theorem LexLong_s10 (r : Rec (dens [.bool])) (t0 : Int) (t5 : Int) (t7 : Int) (h0 : List Int) : evT LexLong_E LexLong_h r 3000 true (todoOf 10 (bodyOf Tryz.f4)) [(0, AV.int .i64 t0), (5, AV.int .u8 t5), (6, AV.vec 0 1), (7, AV.int .i64 t7)] [Blk.I 5 .u8 h0] = LexLong_b10 (fun t0 t5 t7 h0 => r (todoOf 10 (bodyOf Tryz.f4)) [(0, AV.int .i64 t0), (5, AV.int .u8 t5), (6, AV.vec 0 1), (7, AV.int .i64 t7)] [Blk.I 5 .u8 h0]) t0 t5 t7 h0 := by kernel_rfl
theorem LexLong_k : ∀ k, (∀ (t0 : Int) (t5 : Int) (t7 : Int) (h0 : List Int), evK LexLong_E LexLong_h 3000 k (todoOf 10 (bodyOf Tryz.f4)) [(0, AV.int .i64 t0), (5, AV.int .u8 t5), (6, AV.vec 0 1), (7, AV.int .i64 t7)] [Blk.I 5 .u8 h0] = LexLong_L10 k t0 t5 t7 h0)
  | 0 => by
    refine ?_ <;> intros <;> rfl
  | k + 1 => by
    have ih := LexLong_k k
    refine ?_ <;> intros
    · exact ((LexLong_s10 _ _ _ _ _).trans (by simp only [ih] <;> rfl))
theorem LexLong_ev (k : Nat) (a : Int) (b : Int) : evM LexLong_E LexLong_h 3000 k [.code (bodyOf Tryz.f4)] (T0 0 [.int .i64 a, .int .i64 b]) [] = LexLong_b0 (LexLong_L10 k) a b := by
  refine (LexLong_s0 _ a b).trans ?_
  simp only [LexLong_k k] <;> rfl

end
end Go.RX.S
