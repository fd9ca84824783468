/- What functions compute, printed. -/
import Derived.Test.YtkiihodbgdnijaaGreatDoorSh
set_option linter.unusedVariables false
set_option linter.unusedSimpArgs false
namespace Go.RX.S
open Go Go.RX Go.Proofs
noncomputable section
/-! ### internal/stringslite.Cut -/
def cutL9_h : Nat → Option Head := hintOf []
def cutL9_b0  (a : ByteArray) (b : ByteArray) : Option (ByteArray × ByteArray × Bool) :=
  Option.bind (idx1F (a, b)) fun t =>
  bif decide (t ≥ (0 : Int)) then
    bif bif decide ((0 : Int) ≤ t) then decide (t ≤ (↑(ByteArray.size a) : Int)) else false then
      bif bif decide ((0 : Int) ≤ addI .i64 t (↑(ByteArray.size b) : Int)) then decide (addI .i64 t (↑(ByteArray.size b) : Int) ≤ (↑(ByteArray.size a) : Int)) else false then
        some (ByteArray.extract a 0 (Int.toNat t), ByteArray.extract a (Int.toNat (addI .i64 t (↑(ByteArray.size b) : Int))) (Int.toNat (↑(ByteArray.size a) : Int)), true)
      else none
    else none
  else some (a, strOfI [], false)
noncomputable def cutL9_E : Env (dens [.str, .str, .bool]) := envOf S.tab [(211, mkF [.str, .str] [.int .i64] idx1F)] Tryz.f176 [4, 5, 6] [.str, .str, .bool]
theorem cutL9_s0 (r : Rec (dens [.str, .str, .bool])) (a : ByteArray) (b : ByteArray) : evT cutL9_E cutL9_h r 3000 false [.code (bodyOf Tryz.f176)] (T0 0 [.str a, .str b]) [] = cutL9_b0  a b := by kernel_rfl
theorem cutL9_ev (k : Nat) (a : ByteArray) (b : ByteArray) : evM cutL9_E cutL9_h 3000 k [.code (bodyOf Tryz.f176)] (T0 0 [.str a, .str b]) [] = cutL9_b0  a b := by
  exact cutL9_s0 _ a b

/-! ### strings.Cut -/
def cutS_h : Nat → Option Head := hintOf []
def cutS_b0  (a : ByteArray) (b : ByteArray) : Option (ByteArray × ByteArray × Bool) :=
  Option.bind (cutL9F (a, b)) fun t => some (t.1, (Prod.snd t).1, (Prod.snd t).2)
noncomputable def cutS_E : Env (dens [.str, .str, .bool]) := envOf S.tab [(176, mkF [.str, .str] [.str, .str, .bool] cutL9F)] Tryz.f134 [4, 5, 6] [.str, .str, .bool]
theorem cutS_s0 (r : Rec (dens [.str, .str, .bool])) (a : ByteArray) (b : ByteArray) : evT cutS_E cutS_h r 3000 false [.code (bodyOf Tryz.f134)] (T0 0 [.str a, .str b]) [] = cutS_b0  a b := by kernel_rfl
theorem cutS_ev (k : Nat) (a : ByteArray) (b : ByteArray) : evM cutS_E cutS_h 3000 k [.code (bodyOf Tryz.f134)] (T0 0 [.str a, .str b]) [] = cutS_b0  a b := by
  exact cutS_s0 _ a b

/-! ### plumb/lex.digit -/
def xDigit_h : Nat → Option Head := hintOf []
def xDigit_b0  (a : Int) : Option (Bool) :=
  bif decide (a ≥ (48 : Int)) then some (decide (a ≤ (57 : Int))) else some false
noncomputable def xDigit_E : Env (dens [.bool]) := envOf S.tab [] Tryz.f131 [2] [.bool]
theorem xDigit_s0 (r : Rec (dens [.bool])) (a : Int) : evT xDigit_E xDigit_h r 3000 false [.code (bodyOf Tryz.f131)] (T0 0 [.int .u8 a]) [] = xDigit_b0  a := by kernel_rfl
theorem xDigit_ev (k : Nat) (a : Int) : evM xDigit_E xDigit_h 3000 k [.code (bodyOf Tryz.f131)] (T0 0 [.int .u8 a]) [] = xDigit_b0  a := by
  exact xDigit_s0 _ a

/-! ### plumb/lex.plain -/
def xPlain_h : Nat → Option Head := hintOf [(8, ⟨[(0, .same), (1, .same), (21, .same), (22, .same)], 0⟩)]
def xPlain_b0 (l8 : ByteArray → Bool → Int → Int → Option Bool) (a : ByteArray) (b : Bool) : Option (Bool) :=
  bif decide ((↑(ByteArray.size a) : Int) > (65536 : Int)) then some false
else
  bif decide ((↑(ByteArray.size a) : Int) > (0 : Int)) then
    bif inRange (0 : Int) (ByteArray.size a) then bif decide (byteAt a (0 : Int) = (48 : Int)) then some false else l8 a b (↑(ByteArray.size a) : Int) (0 : Int) else none
  else l8 a b (↑(ByteArray.size a) : Int) (0 : Int)
def xPlain_b8 (l8 : ByteArray → Bool → Int → Int → Option Bool) (t0 : ByteArray) (t1 : Bool) (t21 : Int) (t22 : Int) : Option (Bool) :=
  bif decide (t22 < t21) then
  bif inRange t22 (ByteArray.size t0) then
    Option.bind (xDigitF (byteAt t0 t22)) fun t =>
      bif !t then
        bif t1 then bif decide (byteAt t0 t22 ≥ (97 : Int)) then bif !decide (byteAt t0 t22 ≤ (102 : Int)) then some false else l8 t0 t1 t21 (addI .i64 t22 (1 : Int)) else some false
        else some false
      else l8 t0 t1 t21 (addI .i64 t22 (1 : Int))
  else none
else some true
mutual
def xPlain_L8 : Nat → ByteArray → Bool → Int → Int → Option (Bool)
  | 0, _, _, _, _ => none
  | k + 1, t0, t1, t21, t22 => xPlain_b8 (xPlain_L8 k) t0 t1 t21 t22
end
noncomputable def xPlain_E : Env (dens [.bool]) := envOf S.tab [(131, mkF [.int .u8] [.bool] xDigitF)] Tryz.f75 [4] [.bool]
theorem xPlain_s0 (r : Rec (dens [.bool])) (a : ByteArray) (b : Bool) : evT xPlain_E xPlain_h r 3000 false [.code (bodyOf Tryz.f75)] (T0 0 [.str a, .bool b]) [] = xPlain_b0 (fun t0 t1 t21 t22 => r (todoOf 8 (bodyOf Tryz.f75)) [(0, AV.str t0), (1, AV.bool t1), (21, AV.int .i64 t21), (22, AV.int .i64 t22)] []) a b := by kernel_rfl
theorem xPlain_s8 (r : Rec (dens [.bool])) (t0 : ByteArray) (t1 : Bool) (t21 : Int) (t22 : Int) : evT xPlain_E xPlain_h r 3000 true (todoOf 8 (bodyOf Tryz.f75)) [(0, AV.str t0), (1, AV.bool t1), (21, AV.int .i64 t21), (22, AV.int .i64 t22)] [] = xPlain_b8 (fun t0 t1 t21 t22 => r (todoOf 8 (bodyOf Tryz.f75)) [(0, AV.str t0), (1, AV.bool t1), (21, AV.int .i64 t21), (22, AV.int .i64 t22)] []) t0 t1 t21 t22 := by kernel_rfl
theorem xPlain_k : ∀ k, (∀ (t0 : ByteArray) (t1 : Bool) (t21 : Int) (t22 : Int), evK xPlain_E xPlain_h 3000 k (todoOf 8 (bodyOf Tryz.f75)) [(0, AV.str t0), (1, AV.bool t1), (21, AV.int .i64 t21), (22, AV.int .i64 t22)] [] = xPlain_L8 k t0 t1 t21 t22)
  | 0 => by
    refine ?_ <;> intros <;> rfl
  | k + 1 => by
    have ih := xPlain_k k
    refine ?_ <;> intros
    · exact ((xPlain_s8 _ _ _ _ _).trans (by simp only [ih] <;> rfl))
theorem xPlain_ev (k : Nat) (a : ByteArray) (b : Bool) : evM xPlain_E xPlain_h 3000 k [.code (bodyOf Tryz.f75)] (T0 0 [.str a, .bool b]) [] = xPlain_b0 (xPlain_L8 k) a b := by
  refine (xPlain_s0 _ a b).trans ?_
  simp only [xPlain_k k] <;> rfl

/-! ### plumb/lex.held -/
def xHeld_h : Nat → Option Head := hintOf []
def xHeld_b0  (a : Int) : Option (Int) :=
  some (minI (maxI a (-1073741824 : Int)) (1073741824 : Int))
noncomputable def xHeld_E : Env (dens [.int .i64]) := envOf S.tab [] Tryz.f76 [2] [.int .i64]
theorem xHeld_s0 (r : Rec (dens [.int .i64])) (a : Int) : evT xHeld_E xHeld_h r 3000 false [.code (bodyOf Tryz.f76)] (T0 0 [.int .i64 a]) [] = xHeld_b0  a := by kernel_rfl
theorem xHeld_ev (k : Nat) (a : Int) : evM xHeld_E xHeld_h 3000 k [.code (bodyOf Tryz.f76)] (T0 0 [.int .i64 a]) [] = xHeld_b0  a := by
  exact xHeld_s0 _ a

/-! ### plumb/lex.Check -/
def xCheck_h : Nat → Option Head := hintOf []
def xCheck_b0  (a : List AV) : Option (Int) :=
  bif decide (AV.toInt (aget a 0) = (1 : Int)) then
  Option.bind (xPlainF (AV.toStr (aget a 2), decide (AV.toInt (aget a 0) = (2 : Int)))) fun t =>
    bif t then
      bif strEq (AV.toStr (aget a 4)) (strOfI []) then
        Option.bind (xHeldF (AV.toInt (aget a 3))) fun t => bif !decide (t = AV.toInt (aget a 3)) then some (90 : Int) else some (0 : Int)
      else some (90 : Int)
    else some (90 : Int)
else
  bif decide (AV.toInt (aget a 0) = (2 : Int)) then
    Option.bind (xPlainF (AV.toStr (aget a 2), decide (AV.toInt (aget a 0) = (2 : Int)))) fun t =>
      bif t then
        bif strEq (AV.toStr (aget a 4)) (strOfI []) then
          Option.bind (xHeldF (AV.toInt (aget a 3))) fun t => bif !decide (t = AV.toInt (aget a 3)) then some (90 : Int) else some (0 : Int)
        else some (90 : Int)
      else some (90 : Int)
  else
    bif decide (AV.toInt (aget a 0) = (3 : Int)) then
      Option.bind (xPlainF (AV.toStr (aget a 2), false)) fun t =>
        bif t then
          Option.bind (xPlainF (AV.toStr (aget a 4), false)) fun t =>
            bif t then bif !decide (AV.toInt (aget a 3) = (0 : Int)) then some (90 : Int) else some (0 : Int) else some (90 : Int)
        else some (90 : Int)
    else some (90 : Int)
noncomputable def xCheck_E : Env (dens [.int .i64]) := envOf S.tab [(75, mkF [.str, .bool] [.bool] xPlainF), (76, mkF [.int .i64] [.int .i64] xHeldF)] Tryz.f25 [2] [.int .i64]
theorem xCheck_s0 (r : Rec (dens [.int .i64])) (a : List AV) : evT xCheck_E xCheck_h r 3000 false [.code (bodyOf Tryz.f25)] (T0 0 [.agg (etaL [.int .i64, .bool, .str, .int .i64, .str] 0 a)]) [] = xCheck_b0  a := by kernel_rfl
theorem xCheck_ev (k : Nat) (a : List AV) : evM xCheck_E xCheck_h 3000 k [.code (bodyOf Tryz.f25)] (T0 0 [.agg (etaL [.int .i64, .bool, .str, .int .i64, .str] 0 a)]) [] = xCheck_b0  a := by
  exact xCheck_s0 _ a

/-! ### plumb/lex.some -/
def xSome_h : Nat → Option Head := hintOf []
def xSome_b0  (a : ByteArray) : Option (ByteArray) :=
  bif strEq a (strOfI []) then some (strOfI [(48 : Int)]) else some a
noncomputable def xSome_E : Env (dens [.str]) := envOf S.tab [] Tryz.f63 [2] [.str]
theorem xSome_s0 (r : Rec (dens [.str])) (a : ByteArray) : evT xSome_E xSome_h r 3000 false [.code (bodyOf Tryz.f63)] (T0 0 [.str a]) [] = xSome_b0  a := by kernel_rfl
theorem xSome_ev (k : Nat) (a : ByteArray) : evM xSome_E xSome_h 3000 k [.code (bodyOf Tryz.f63)] (T0 0 [.str a]) [] = xSome_b0  a := by
  exact xSome_s0 _ a

/-! ### plumb/lex.bared -/
def xBared_h : Nat → Option Head := hintOf []
def xBared_b0  (a : ByteArray) : Option (ByteArray) :=
  Option.bind (trimLF (a, strOfI [(48 : Int)])) fun t => some t
noncomputable def xBared_E : Env (dens [.str]) := envOf S.tab [(177, mkF [.str, .str] [.str] trimLF)] Tryz.f135 [2] [.str]
theorem xBared_s0 (r : Rec (dens [.str])) (a : ByteArray) : evT xBared_E xBared_h r 3000 false [.code (bodyOf Tryz.f135)] (T0 0 [.str a]) [] = xBared_b0  a := by kernel_rfl
theorem xBared_ev (k : Nat) (a : ByteArray) : evM xBared_E xBared_h 3000 k [.code (bodyOf Tryz.f135)] (T0 0 [.str a]) [] = xBared_b0  a := by
  exact xBared_s0 _ a

/-! ### plumb/lex.exponent -/
def xExpo_h : Nat → Option Head := hintOf []
def xExpo_b0  (a : ByteArray) : Option (Int) :=
  bif strEq a (strOfI []) then some (0 : Int)
else
  Option.bind (trimLF (a, strOfI [(43 : Int), (45 : Int)])) fun t =>
    Option.bind (xBaredF t) fun t =>
      bif decide ((↑(ByteArray.size t) : Int) < (13 : Int)) then
        bif decide (nat_lit 1 + ByteArray.size t ≤ nat_lit 9223372036854775807) then
          Option.bind (atoiF (strCat (strOfI [(48 : Int)]) t)) fun t =>
            bif inRange (0 : Int) (ByteArray.size a) then bif decide (byteAt a (0 : Int) = (45 : Int)) then some (subI .i64 (0 : Int) t.1) else some t.1 else none
        else none
      else bif inRange (0 : Int) (ByteArray.size a) then bif decide (byteAt a (0 : Int) = (45 : Int)) then some (-1099511627776 : Int) else some (1099511627776 : Int) else none
noncomputable def xExpo_E : Env (dens [.int .i64]) := envOf S.tab [(135, mkF [.str] [.str] xBaredF), (177, mkF [.str, .str] [.str] trimLF), (181, mkF [.str] [.int .i64, .err] atoiF)] Tryz.f137 [2] [.int .i64]
theorem xExpo_s0 (r : Rec (dens [.int .i64])) (a : ByteArray) : evT xExpo_E xExpo_h r 3000 false [.code (bodyOf Tryz.f137)] (T0 0 [.str a]) [] = xExpo_b0  a := by kernel_rfl
theorem xExpo_ev (k : Nat) (a : ByteArray) : evM xExpo_E xExpo_h 3000 k [.code (bodyOf Tryz.f137)] (T0 0 [.str a]) [] = xExpo_b0  a := by
  exact xExpo_s0 _ a

/-! ### plumb/lex.says -/
def xSays_h : Nat → Option Head := hintOf []
def xSays_b0  (a : ByteArray) (b : Int) : Option (List AV) :=
  bif inRange (0 : Int) (ByteArray.size a) then
  bif inRange (0 : Int) (ByteArray.size a) then
    bif decide (byteAt a (0 : Int) = (43 : Int)) then
      bif decide ((1 : Int) ≤ (↑(ByteArray.size a) : Int)) then
        bif decide (b = (3 : Int)) then
          Option.bind (cutSF (ByteArray.extract a 1 (Int.toNat (↑(ByteArray.size a) : Int)), strOfI [(47 : Int)])) fun t =>
            Option.bind (xBaredF t.1) fun t_1 =>
              Option.bind (xBaredF (Prod.snd t).1) fun t => some [AV.int .i64 b, AV.bool (decide (byteAt a (0 : Int) = (45 : Int))), AV.str t_1, AV.int .i64 (0 : Int), AV.str t]
        else
          Option.bind (lowerF (ByteArray.extract a 1 (Int.toNat (↑(ByteArray.size a) : Int)))) fun t =>
            bif decide (b = (2 : Int)) then
              bif decide ((2 : Int) ≤ (↑(ByteArray.size t) : Int)) then
                Option.bind (cutSF (ByteArray.extract t 2 (Int.toNat (↑(ByteArray.size t) : Int)), strOfI [(112 : Int)])) fun t =>
                  Option.bind (cutSF (t.1, strOfI [(46 : Int)])) fun t_1 =>
                    bif decide (ByteArray.size t_1.1 + ByteArray.size (Prod.snd t_1).1 ≤ nat_lit 9223372036854775807) then
                      Option.bind (xBaredF (strCat t_1.1 (Prod.snd t_1).1)) fun t_2 =>
                        Option.bind (xExpoF (Prod.snd t).1) fun t =>
                          Option.bind (xHeldF (subI .i64 t (mulI .i64 (4 : Int) (↑(ByteArray.size (Prod.snd t_1).1) : Int)))) fun t =>
                            some [AV.int .i64 b, AV.bool (decide (byteAt a (0 : Int) = (45 : Int))), AV.str t_2, AV.int .i64 t, AV.str (strOfI [])]
                    else none
              else none
            else
              Option.bind (cutSF (t, strOfI [(101 : Int)])) fun t =>
                Option.bind (cutSF (t.1, strOfI [(46 : Int)])) fun t_1 =>
                  bif decide (ByteArray.size t_1.1 + ByteArray.size (Prod.snd t_1).1 ≤ nat_lit 9223372036854775807) then
                    Option.bind (xBaredF (strCat t_1.1 (Prod.snd t_1).1)) fun t_2 =>
                      Option.bind (xExpoF (Prod.snd t).1) fun t =>
                        Option.bind (xHeldF (subI .i64 t (mulI .i64 (1 : Int) (↑(ByteArray.size (Prod.snd t_1).1) : Int)))) fun t =>
                          some [AV.int .i64 b, AV.bool (decide (byteAt a (0 : Int) = (45 : Int))), AV.str t_2, AV.int .i64 t, AV.str (strOfI [])]
                  else none
      else none
    else
      bif inRange (0 : Int) (ByteArray.size a) then
        bif decide (byteAt a (0 : Int) = (45 : Int)) then
          bif decide ((1 : Int) ≤ (↑(ByteArray.size a) : Int)) then
            bif decide (b = (3 : Int)) then
              Option.bind (cutSF (ByteArray.extract a 1 (Int.toNat (↑(ByteArray.size a) : Int)), strOfI [(47 : Int)])) fun t =>
                Option.bind (xBaredF t.1) fun t_1 =>
                  Option.bind (xBaredF (Prod.snd t).1) fun t => some [AV.int .i64 b, AV.bool (decide (byteAt a (0 : Int) = (45 : Int))), AV.str t_1, AV.int .i64 (0 : Int), AV.str t]
            else
              Option.bind (lowerF (ByteArray.extract a 1 (Int.toNat (↑(ByteArray.size a) : Int)))) fun t =>
                bif decide (b = (2 : Int)) then
                  bif decide ((2 : Int) ≤ (↑(ByteArray.size t) : Int)) then
                    Option.bind (cutSF (ByteArray.extract t 2 (Int.toNat (↑(ByteArray.size t) : Int)), strOfI [(112 : Int)])) fun t =>
                      Option.bind (cutSF (t.1, strOfI [(46 : Int)])) fun t_1 =>
                        bif decide (ByteArray.size t_1.1 + ByteArray.size (Prod.snd t_1).1 ≤ nat_lit 9223372036854775807) then
                          Option.bind (xBaredF (strCat t_1.1 (Prod.snd t_1).1)) fun t_2 =>
                            Option.bind (xExpoF (Prod.snd t).1) fun t =>
                              Option.bind (xHeldF (subI .i64 t (mulI .i64 (4 : Int) (↑(ByteArray.size (Prod.snd t_1).1) : Int)))) fun t =>
                                some [AV.int .i64 b, AV.bool (decide (byteAt a (0 : Int) = (45 : Int))), AV.str t_2, AV.int .i64 t, AV.str (strOfI [])]
                        else none
                  else none
                else
                  Option.bind (cutSF (t, strOfI [(101 : Int)])) fun t =>
                    Option.bind (cutSF (t.1, strOfI [(46 : Int)])) fun t_1 =>
                      bif decide (ByteArray.size t_1.1 + ByteArray.size (Prod.snd t_1).1 ≤ nat_lit 9223372036854775807) then
                        Option.bind (xBaredF (strCat t_1.1 (Prod.snd t_1).1)) fun t_2 =>
                          Option.bind (xExpoF (Prod.snd t).1) fun t =>
                            Option.bind (xHeldF (subI .i64 t (mulI .i64 (1 : Int) (↑(ByteArray.size (Prod.snd t_1).1) : Int)))) fun t =>
                              some [AV.int .i64 b, AV.bool (decide (byteAt a (0 : Int) = (45 : Int))), AV.str t_2, AV.int .i64 t, AV.str (strOfI [])]
                      else none
          else none
        else
          bif decide (b = (3 : Int)) then
            Option.bind (cutSF (a, strOfI [(47 : Int)])) fun t =>
              Option.bind (xBaredF t.1) fun t_1 =>
                Option.bind (xBaredF (Prod.snd t).1) fun t => some [AV.int .i64 b, AV.bool (decide (byteAt a (0 : Int) = (45 : Int))), AV.str t_1, AV.int .i64 (0 : Int), AV.str t]
          else
            Option.bind (lowerF a) fun t =>
              bif decide (b = (2 : Int)) then
                bif decide ((2 : Int) ≤ (↑(ByteArray.size t) : Int)) then
                  Option.bind (cutSF (ByteArray.extract t 2 (Int.toNat (↑(ByteArray.size t) : Int)), strOfI [(112 : Int)])) fun t =>
                    Option.bind (cutSF (t.1, strOfI [(46 : Int)])) fun t_1 =>
                      bif decide (ByteArray.size t_1.1 + ByteArray.size (Prod.snd t_1).1 ≤ nat_lit 9223372036854775807) then
                        Option.bind (xBaredF (strCat t_1.1 (Prod.snd t_1).1)) fun t_2 =>
                          Option.bind (xExpoF (Prod.snd t).1) fun t =>
                            Option.bind (xHeldF (subI .i64 t (mulI .i64 (4 : Int) (↑(ByteArray.size (Prod.snd t_1).1) : Int)))) fun t =>
                              some [AV.int .i64 b, AV.bool (decide (byteAt a (0 : Int) = (45 : Int))), AV.str t_2, AV.int .i64 t, AV.str (strOfI [])]
                      else none
                else none
              else
                Option.bind (cutSF (t, strOfI [(101 : Int)])) fun t =>
                  Option.bind (cutSF (t.1, strOfI [(46 : Int)])) fun t_1 =>
                    bif decide (ByteArray.size t_1.1 + ByteArray.size (Prod.snd t_1).1 ≤ nat_lit 9223372036854775807) then
                      Option.bind (xBaredF (strCat t_1.1 (Prod.snd t_1).1)) fun t_2 =>
                        Option.bind (xExpoF (Prod.snd t).1) fun t =>
                          Option.bind (xHeldF (subI .i64 t (mulI .i64 (1 : Int) (↑(ByteArray.size (Prod.snd t_1).1) : Int)))) fun t =>
                            some [AV.int .i64 b, AV.bool (decide (byteAt a (0 : Int) = (45 : Int))), AV.str t_2, AV.int .i64 t, AV.str (strOfI [])]
                    else none
      else none
  else none
else none
noncomputable def xSays_E : Env (dens [.st [.int .i64, .bool, .str, .int .i64, .str]]) := envR S.tab [(135, mkF [.str] [.str] xBaredF), (134, mkF [.str, .str] [.str, .str, .bool] cutSF), (136, mkF [.str] [.str] lowerF), (137, mkF [.str] [.int .i64] xExpoF), (76, mkF [.int .i64] [.int .i64] xHeldF)] Tryz.f81 [.cell 4 23] [.st [.int .i64, .bool, .str, .int .i64, .str]]
theorem xSays_s0 (r : Rec (dens [.st [.int .i64, .bool, .str, .int .i64, .str]])) (a : ByteArray) (b : Int) : evT xSays_E xSays_h r 3000 false [.code (bodyOf Tryz.f81)] (T0 0 [.str a, .int .i64 b]) [] = xSays_b0  a b := by kernel_rfl
theorem xSays_ev (k : Nat) (a : ByteArray) (b : Int) : evM xSays_E xSays_h 3000 k [.code (bodyOf Tryz.f81)] (T0 0 [.str a, .int .i64 b]) [] = xSays_b0  a b := by
  exact xSays_s0 _ a b

/-! ### plumb/lex.Scan -/
def xScan_h : Nat → Option Head := hintOf []
def xScan_b0  (a : ByteArray) (b : Int) : Option (List AV × Int × Option (Int × Int)) :=
  bif decide (b < (0 : Int)) then
  Option.bind (wrapF (b, (90 : Int))) fun t => some ([AV.int .i64 (0 : Int), AV.bool false, AV.str (strOfI []), AV.int .i64 (0 : Int), AV.str (strOfI [])], (0 : Int), t)
else
  bif decide (b > (↑(ByteArray.size a) : Int)) then
    Option.bind (wrapF (b, (90 : Int))) fun t => some ([AV.int .i64 (0 : Int), AV.bool false, AV.str (strOfI []), AV.int .i64 (0 : Int), AV.str (strOfI [])], (0 : Int), t)
  else
    bif bif decide ((0 : Int) ≤ b) then decide (b ≤ (↑(ByteArray.size a) : Int)) else false then
      Option.bind (longF (ByteArray.extract a (Int.toNat b) (Int.toNat (↑(ByteArray.size a) : Int)))) fun t =>
        bif decide (t.1 = (0 : Int)) then
          Option.bind (wrapF (b, (90 : Int))) fun t => some ([AV.int .i64 (0 : Int), AV.bool false, AV.str (strOfI []), AV.int .i64 (0 : Int), AV.str (strOfI [])], (0 : Int), t)
        else
          bif bif bif decide ((0 : Int) ≤ b) then decide (b ≤ addI .i64 b t.2) else false then decide (addI .i64 b t.2 ≤ (↑(ByteArray.size a) : Int)) else false then
            Option.bind (xSaysF (ByteArray.extract a (Int.toNat b) (Int.toNat (addI .i64 b t.2)), t.1)) fun t_1 =>
              some
                ([AV.int .i64 (AV.toInt (aget t_1 0)), AV.bool (AV.toBool (aget t_1 1)), AV.str (AV.toStr (aget t_1 2)),
                    AV.int .i64 (AV.toInt (aget t_1 3)), AV.str (AV.toStr (aget t_1 4))],
                  addI .i64 b t.2, none)
          else none
    else none
noncomputable def xScan_E : Env (dens [.st [.int .i64, .bool, .str, .int .i64, .str], .int .i64, .err]) := envR S.tab [(79, mkF [.int .i64, .int .i64] [.err] wrapF), (80, mkF [.str] [.int .i64, .int .i64] longF), (81, mkF [.str, .int .i64] [.st [.int .i64, .bool, .str, .int .i64, .str]] xSaysF)] Tryz.f29 [.cell 4 23, .tmp 5, .tmp 6] [.st [.int .i64, .bool, .str, .int .i64, .str], .int .i64, .err]
theorem xScan_s0 (r : Rec (dens [.st [.int .i64, .bool, .str, .int .i64, .str], .int .i64, .err])) (a : ByteArray) (b : Int) : evT xScan_E xScan_h r 3000 false [.code (bodyOf Tryz.f29)] (T0 0 [.str a, .int .i64 b]) [] = xScan_b0  a b := by kernel_rfl
theorem xScan_ev (k : Nat) (a : ByteArray) (b : Int) : evM xScan_E xScan_h 3000 k [.code (bodyOf Tryz.f29)] (T0 0 [.str a, .int .i64 b]) [] = xScan_b0  a b := by
  exact xScan_s0 _ a b

/-! ### plumb/lex.Parse -/
def xParse_h : Nat → Option Head := hintOf []
def xParse_b0  (a : ByteArray) : Option (List AV × Option (Int × Int)) :=
  Option.bind (xScanF (a, (0 : Int))) fun t =>
  bif errSome (Prod.snd t).2 then some ([AV.int .i64 (0 : Int), AV.bool false, AV.str (strOfI []), AV.int .i64 (0 : Int), AV.str (strOfI [])], (Prod.snd t).2)
  else
    bif decide ((Prod.snd t).1 = (↑(ByteArray.size a) : Int)) then
      some
        ([AV.int .i64 (AV.toInt (aget t.1 0)), AV.bool (AV.toBool (aget t.1 1)), AV.str (AV.toStr (aget t.1 2)),
            AV.int .i64 (AV.toInt (aget t.1 3)), AV.str (AV.toStr (aget t.1 4))],
          none)
    else
      bif inRange (Prod.snd t).1 (ByteArray.size a) then
        bif decide (byteAt a (Prod.snd t).1 = (43 : Int)) then
          Option.bind (wrapF ((Prod.snd t).1, (91 : Int))) fun t => some ([AV.int .i64 (0 : Int), AV.bool false, AV.str (strOfI []), AV.int .i64 (0 : Int), AV.str (strOfI [])], t)
        else
          bif inRange (Prod.snd t).1 (ByteArray.size a) then
            bif decide (byteAt a (Prod.snd t).1 = (45 : Int)) then
              Option.bind (wrapF ((Prod.snd t).1, (91 : Int))) fun t => some ([AV.int .i64 (0 : Int), AV.bool false, AV.str (strOfI []), AV.int .i64 (0 : Int), AV.str (strOfI [])], t)
            else
              bif inRange (Prod.snd t).1 (ByteArray.size a) then
                Option.bind (idxBF (strOfI [(101 : Int), (69 : Int), (112 : Int), (80 : Int)], byteAt a (Prod.snd t).1)) fun t_1 =>
                  bif decide (t_1 ≥ (0 : Int)) then
                    Option.bind (wrapF ((Prod.snd t).1, (92 : Int))) fun t =>
                      some ([AV.int .i64 (0 : Int), AV.bool false, AV.str (strOfI []), AV.int .i64 (0 : Int), AV.str (strOfI [])], t)
                  else
                    Option.bind (wrapF ((Prod.snd t).1, (90 : Int))) fun t =>
                      some ([AV.int .i64 (0 : Int), AV.bool false, AV.str (strOfI []), AV.int .i64 (0 : Int), AV.str (strOfI [])], t)
              else none
          else none
      else none
noncomputable def xParse_E : Env (dens [.st [.int .i64, .bool, .str, .int .i64, .str], .err]) := envR S.tab [(29, mkF [.str, .int .i64] [.st [.int .i64, .bool, .str, .int .i64, .str], .int .i64, .err] xScanF), (79, mkF [.int .i64, .int .i64] [.err] wrapF), (85, mkF [.str, .int .u8] [.int .i64] idxBF)] Tryz.f32 [.cell 2 23, .tmp 3] [.st [.int .i64, .bool, .str, .int .i64, .str], .err]
theorem xParse_s0 (r : Rec (dens [.st [.int .i64, .bool, .str, .int .i64, .str], .err])) (a : ByteArray) : evT xParse_E xParse_h r 3000 false [.code (bodyOf Tryz.f32)] (T0 0 [.str a]) [] = xParse_b0  a := by kernel_rfl
theorem xParse_ev (k : Nat) (a : ByteArray) : evM xParse_E xParse_h 3000 k [.code (bodyOf Tryz.f32)] (T0 0 [.str a]) [] = xParse_b0  a := by
  exact xParse_s0 _ a

/-! ### plumb/plumblaw09.into -/
def into9_h : Nat → Option Head := hintOf []
def into9_b0  (a : Int) (b : Int) : Option (Int) :=
  bif !decide (b = (0 : Int)) then bif decide (remI a b < (0 : Int)) then some (addI .i64 (remI a b) b) else some (remI a b) else none
noncomputable def into9_E : Env (dens [.int .i64]) := envOf S.tab [] Tryz.f28 [4] [.int .i64]
theorem into9_s0 (r : Rec (dens [.int .i64])) (a : Int) (b : Int) : evT into9_E into9_h r 3000 false [.code (bodyOf Tryz.f28)] (T0 0 [.int .i64 a, .int .i64 b]) [] = into9_b0  a b := by kernel_rfl
theorem into9_ev (k : Nat) (a : Int) (b : Int) : evM into9_E into9_h 3000 k [.code (bodyOf Tryz.f28)] (T0 0 [.int .i64 a, .int .i64 b]) [] = into9_b0  a b := by
  exact into9_s0 _ a b

/-! ### plumb/plumblaw09.cut -/
def cut9_h : Nat → Option Head := hintOf []
def cut9_b0  (a : ByteArray) : Option (ByteArray) :=
  bif decide ((↑(ByteArray.size a) : Int) > (300 : Int)) then bif decide ((300 : Int) ≤ (↑(ByteArray.size a) : Int)) then some (ByteArray.extract a 0 300) else none else some a
noncomputable def cut9_E : Env (dens [.str]) := envOf S.tab [] Tryz.f20 [2] [.str]
theorem cut9_s0 (r : Rec (dens [.str])) (a : ByteArray) : evT cut9_E cut9_h r 3000 false [.code (bodyOf Tryz.f20)] (T0 0 [.str a]) [] = cut9_b0  a := by kernel_rfl
theorem cut9_ev (k : Nat) (a : ByteArray) : evM cut9_E cut9_h 3000 k [.code (bodyOf Tryz.f20)] (T0 0 [.str a]) [] = cut9_b0  a := by
  exact cut9_s0 _ a

end
end Go.RX.S
