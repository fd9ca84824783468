/- What functions compute, printed. -/
import Derived.Test.YtkiihodbgdnijaaGreatDoorSi
set_option linter.unusedVariables false
set_option linter.unusedSimpArgs false
namespace Go.RX.S
open Go Go.RX Go.Proofs
noncomputable section
/-! ### plumb/plumblaw09.number -/
def x9num_h : Nat → Option Head := hintOf []
def x9num_b0  (K : Nat) (a : Int) : Option (ByteArray) :=
  bif decide (a < (10 : Int)) then some (strOfI [cvI .u8 (addI .i64 (48 : Int) a)])
else
  Option.bind (x9numKF K (divI .i64 a (10 : Int))) fun t =>
    bif decide (ByteArray.size t + nat_lit 1 ≤ nat_lit 9223372036854775807) then some (strCat t (strOfI [cvI .u8 (addI .i64 (48 : Int) (remI a (10 : Int)))])) else none
noncomputable def x9num_E (K : Nat) : Env (dens [.str]) := envOf S.tab [(84, mkF [.int .i64] [.str] (x9numKF K))] Tryz.f84 [2] [.str]
theorem x9num_s0 (r : Rec (dens [.str])) (K : Nat) (a : Int) : evT (x9num_E K) x9num_h r 3000 false [.code (bodyOf Tryz.f84)] (T0 0 [.int .i64 a]) [] = x9num_b0  K a := by kernel_rfl
theorem x9num_ev (k : Nat) (K : Nat) (a : Int) : evM (x9num_E K) x9num_h 3000 k [.code (bodyOf Tryz.f84)] (T0 0 [.int .i64 a]) [] = x9num_b0  K a := by
  exact x9num_s0 _ K a

/-! ### plumb/plumblaw09.sign -/
def x9sign_h : Nat → Option Head := hintOf []
def x9sign_b0  (a : Int) (b : Bool) : Option (ByteArray) :=
  bif decide (a < (0 : Int)) then some (strOfI [(45 : Int)]) else bif b then some (strOfI [(43 : Int)]) else some (strOfI [])
noncomputable def x9sign_E : Env (dens [.str]) := envOf S.tab [] Tryz.f82 [4] [.str]
theorem x9sign_s0 (r : Rec (dens [.str])) (a : Int) (b : Bool) : evT x9sign_E x9sign_h r 3000 false [.code (bodyOf Tryz.f82)] (T0 0 [.int .i64 a, .bool b]) [] = x9sign_b0  a b := by kernel_rfl
theorem x9sign_ev (k : Nat) (a : Int) (b : Bool) : evM x9sign_E x9sign_h 3000 k [.code (bodyOf Tryz.f82)] (T0 0 [.int .i64 a, .bool b]) [] = x9sign_b0  a b := by
  exact x9sign_s0 _ a b

/-! ### plumb/plumblaw09.digits -/
def x9digits_h : Nat → Option Head := hintOf [(6, ⟨[(0, .same), (1, .same), (2, .same), (7, .vec 5), (8, .same)], 1⟩)]
def x9digits_b0 (l6 : List Int → Int → Bool → Int → List Int → Option ByteArray) (a : List Int) (b : Int) (c : Bool) : Option (ByteArray) :=
  l6 a b c (0 : Int) []
def x9digits_b6 (l6 : List Int → Int → Bool → Int → List Int → Option ByteArray) (t0 : List Int) (t1 : Int) (t2 : Bool) (t8 : Int) (h0 : List Int) : Option (ByteArray) :=
  bif decide (t8 < (↑(List.length t0) : Int)) then
  bif decide (t8 < (40 : Int)) then
    bif t2 then
      bif inRange t8 (List.length t0) then
        Option.bind (into9F (rdI t0 t8, t1)) fun t =>
          bif inRange t 16 then
            bif
                decide
                  ((↑(List.length
                            (h0 ++
                              [byteAt
                                  (strOfI
                                    [(48 : Int), (49 : Int), (50 : Int), (51 : Int), (52 : Int), (53 : Int), (54 : Int), (55 : Int), (56 : Int), (57 : Int), (65 : Int), (66 : Int), (67 : Int),
                                      (68 : Int), (69 : Int), (70 : Int)])
                                  t])) :
                        Int) *
                      (1 : Int) ≤
                    (140737488355328 : Int)) then
              l6 t0 t1 t2 (addI .i64 t8 (1 : Int))
                (h0 ++
                  [byteAt
                      (strOfI
                        [(48 : Int), (49 : Int), (50 : Int), (51 : Int), (52 : Int), (53 : Int), (54 : Int), (55 : Int), (56 : Int), (57 : Int), (65 : Int), (66 : Int), (67 : Int), (68 : Int),
                          (69 : Int), (70 : Int)])
                      t])
            else none
          else none
      else none
    else
      bif inRange t8 (List.length t0) then
        Option.bind (into9F (rdI t0 t8, t1)) fun t =>
          bif inRange t 16 then
            bif
                decide
                  ((↑(List.length
                            (h0 ++
                              [byteAt
                                  (strOfI
                                    [(48 : Int), (49 : Int), (50 : Int), (51 : Int), (52 : Int), (53 : Int), (54 : Int), (55 : Int), (56 : Int), (57 : Int), (97 : Int), (98 : Int), (99 : Int),
                                      (100 : Int), (101 : Int), (102 : Int)])
                                  t])) :
                        Int) *
                      (1 : Int) ≤
                    (140737488355328 : Int)) then
              l6 t0 t1 t2 (addI .i64 t8 (1 : Int))
                (h0 ++
                  [byteAt
                      (strOfI
                        [(48 : Int), (49 : Int), (50 : Int), (51 : Int), (52 : Int), (53 : Int), (54 : Int), (55 : Int), (56 : Int), (57 : Int), (97 : Int), (98 : Int), (99 : Int), (100 : Int),
                          (101 : Int), (102 : Int)])
                      t])
            else none
          else none
      else none
  else some (strOfI h0)
else some (strOfI h0)
mutual
def x9digits_L6 : Nat → (List Int) → Int → Bool → Int → (List Int) → Option (ByteArray)
  | 0, _, _, _, _, _ => none
  | k + 1, t0, t1, t2, t8, h0 => x9digits_b6 (x9digits_L6 k) t0 t1 t2 t8 h0
end
noncomputable def x9digits_E : Env (dens [.str]) := envOf S.tab [(28, mkF [.int .i64, .int .i64] [.int .i64] into9F)] Tryz.f33 [6] [.str]
theorem x9digits_s0 (r : Rec (dens [.str])) (a : List Int) (b : Int) (c : Bool) : evT x9digits_E x9digits_h r 3000 false [.code (bodyOf Tryz.f33)] (T0 0 [.ints .i64 a, .int .i64 b, .bool c]) [] = x9digits_b0 (fun t0 t1 t2 t8 h0 => r (todoOf 6 (bodyOf Tryz.f33)) [(0, AV.ints .i64 t0), (1, AV.int .i64 t1), (2, AV.bool t2), (7, AV.vec 0 1), (8, AV.int .i64 t8)] [Blk.I 5 .u8 h0]) a b c := by kernel_rfl
theorem x9digits_s6 (r : Rec (dens [.str])) (t0 : List Int) (t1 : Int) (t2 : Bool) (t8 : Int) (h0 : List Int) : evT x9digits_E x9digits_h r 3000 true (todoOf 6 (bodyOf Tryz.f33)) [(0, AV.ints .i64 t0), (1, AV.int .i64 t1), (2, AV.bool t2), (7, AV.vec 0 1), (8, AV.int .i64 t8)] [Blk.I 5 .u8 h0] = x9digits_b6 (fun t0 t1 t2 t8 h0 => r (todoOf 6 (bodyOf Tryz.f33)) [(0, AV.ints .i64 t0), (1, AV.int .i64 t1), (2, AV.bool t2), (7, AV.vec 0 1), (8, AV.int .i64 t8)] [Blk.I 5 .u8 h0]) t0 t1 t2 t8 h0 := by kernel_rfl
theorem x9digits_k : ∀ k, (∀ (t0 : List Int) (t1 : Int) (t2 : Bool) (t8 : Int) (h0 : List Int), evK x9digits_E x9digits_h 3000 k (todoOf 6 (bodyOf Tryz.f33)) [(0, AV.ints .i64 t0), (1, AV.int .i64 t1), (2, AV.bool t2), (7, AV.vec 0 1), (8, AV.int .i64 t8)] [Blk.I 5 .u8 h0] = x9digits_L6 k t0 t1 t2 t8 h0)
  | 0 => by
    refine ?_ <;> intros <;> rfl
  | k + 1 => by
    have ih := x9digits_k k
    refine ?_ <;> intros
    · exact ((x9digits_s6 _ _ _ _ _ _).trans (by simp only [ih] <;> rfl))
theorem x9digits_ev (k : Nat) (a : List Int) (b : Int) (c : Bool) : evM x9digits_E x9digits_h 3000 k [.code (bodyOf Tryz.f33)] (T0 0 [.ints .i64 a, .int .i64 b, .bool c]) [] = x9digits_b0 (x9digits_L6 k) a b c := by
  refine (x9digits_s0 _ a b c).trans ?_
  simp only [x9digits_k k] <;> rfl

/-! ### plumb/plumblaw09.alive -/
def x9alive_h : Nat → Option Head := hintOf []
def x9alive_b0   : Option (Bool) :=
  Option.bind (xParseF (strOfI [(45 : Int), (49 : Int), (46 : Int), (53 : Int), (48 : Int), (101 : Int), (49 : Int)])) fun t =>
  bif !errSome t.2 then
    some
      (bif decide (AV.toInt (aget t.1 0) = (1 : Int)) then
        bif decide (AV.toBool (aget t.1 1) = true) then
          bif strEq (AV.toStr (aget t.1 2)) (strOfI [(49 : Int), (53 : Int), (48 : Int)]) then
            bif decide (AV.toInt (aget t.1 3) = (-1 : Int)) then strEq (AV.toStr (aget t.1 4)) (strOfI []) else false
          else false
        else false
      else false)
  else some false
noncomputable def x9alive_E : Env (dens [.bool]) := envOf S.tab [(32, mkF [.str] [.st [.int .i64, .bool, .str, .int .i64, .str], .err] xParseF)] Tryz.f31 [0] [.bool]
theorem x9alive_s0 (r : Rec (dens [.bool]))  : evT x9alive_E x9alive_h r 3000 false [.code (bodyOf Tryz.f31)] (T0 0 []) [] = x9alive_b0   := by kernel_rfl
theorem x9alive_ev (k : Nat)  : evM x9alive_E x9alive_h 3000 k [.code (bodyOf Tryz.f31)] (T0 0 []) [] = x9alive_b0   := by
  exact x9alive_s0 _ 

/-! ### plumb/plumblaw09.signless -/
def x9signless_h : Nat → Option Head := hintOf []
def x9signless_b0  (a : ByteArray) : Option (ByteArray) :=
  bif !strEq a (strOfI []) then
  bif inRange (0 : Int) (ByteArray.size a) then
    bif decide (byteAt a (0 : Int) = (43 : Int)) then bif decide ((1 : Int) ≤ (↑(ByteArray.size a) : Int)) then some (ByteArray.extract a 1 (Int.toNat (↑(ByteArray.size a) : Int))) else none
    else
      bif inRange (0 : Int) (ByteArray.size a) then
        bif decide (byteAt a (0 : Int) = (45 : Int)) then
          bif decide ((1 : Int) ≤ (↑(ByteArray.size a) : Int)) then some (ByteArray.extract a 1 (Int.toNat (↑(ByteArray.size a) : Int))) else none
        else some a
      else none
  else none
else some a
noncomputable def x9signless_E : Env (dens [.str]) := envOf S.tab [] Tryz.f90 [2] [.str]
theorem x9signless_s0 (r : Rec (dens [.str])) (a : ByteArray) : evT x9signless_E x9signless_h r 3000 false [.code (bodyOf Tryz.f90)] (T0 0 [.str a]) [] = x9signless_b0  a := by kernel_rfl
theorem x9signless_ev (k : Nat) (a : ByteArray) : evM x9signless_E x9signless_h 3000 k [.code (bodyOf Tryz.f90)] (T0 0 [.str a]) [] = x9signless_b0  a := by
  exact x9signless_s0 _ a

/-! ### plumb/plumblaw09.digit -/
def x9digit_h : Nat → Option Head := hintOf []
def x9digit_b0  (a : Int) (b : Bool) : Option (Bool) :=
  bif decide (a ≥ (48 : Int)) then
  bif decide (a ≤ (57 : Int)) then some true
  else
    bif b then
      bif decide (a ≥ (97 : Int)) then bif decide (a ≤ (102 : Int)) then some true else bif decide (a ≥ (65 : Int)) then some (decide (a ≤ (70 : Int))) else some false
      else bif decide (a ≥ (65 : Int)) then some (decide (a ≤ (70 : Int))) else some false
    else some false
else
  bif b then
    bif decide (a ≥ (97 : Int)) then bif decide (a ≤ (102 : Int)) then some true else bif decide (a ≥ (65 : Int)) then some (decide (a ≤ (70 : Int))) else some false
    else bif decide (a ≥ (65 : Int)) then some (decide (a ≤ (70 : Int))) else some false
  else some false
noncomputable def x9digit_E : Env (dens [.bool]) := envOf S.tab [] Tryz.f144 [4] [.bool]
theorem x9digit_s0 (r : Rec (dens [.bool])) (a : Int) (b : Bool) : evT x9digit_E x9digit_h r 3000 false [.code (bodyOf Tryz.f144)] (T0 0 [.int .u8 a, .bool b]) [] = x9digit_b0  a b := by kernel_rfl
theorem x9digit_ev (k : Nat) (a : Int) (b : Bool) : evM x9digit_E x9digit_h 3000 k [.code (bodyOf Tryz.f144)] (T0 0 [.int .u8 a, .bool b]) [] = x9digit_b0  a b := by
  exact x9digit_s0 _ a b

/-! ### plumb/plumblaw09.all -/
def x9all_h : Nat → Option Head := hintOf [(4, ⟨[(0, .same), (1, .same), (5, .same)], 0⟩)]
def x9all_b0 (l4 : ByteArray → Bool → Int → Option Bool) (a : ByteArray) (b : Bool) : Option (Bool) :=
  l4 a b (0 : Int)
def x9all_b4 (l4 : ByteArray → Bool → Int → Option Bool) (t0 : ByteArray) (t1 : Bool) (t5 : Int) : Option (Bool) :=
  bif decide (t5 < (↑(ByteArray.size t0) : Int)) then
  bif inRange t5 (ByteArray.size t0) then Option.bind (x9digitF (byteAt t0 t5, t1)) fun t => bif !t then some false else l4 t0 t1 (addI .i64 t5 (1 : Int)) else none
else some !strEq t0 (strOfI [])
mutual
def x9all_L4 : Nat → ByteArray → Bool → Int → Option (Bool)
  | 0, _, _, _ => none
  | k + 1, t0, t1, t5 => x9all_b4 (x9all_L4 k) t0 t1 t5
end
noncomputable def x9all_E : Env (dens [.bool]) := envOf S.tab [(144, mkF [.int .u8, .bool] [.bool] x9digitF)] Tryz.f92 [4] [.bool]
theorem x9all_s0 (r : Rec (dens [.bool])) (a : ByteArray) (b : Bool) : evT x9all_E x9all_h r 3000 false [.code (bodyOf Tryz.f92)] (T0 0 [.str a, .bool b]) [] = x9all_b0 (fun t0 t1 t5 => r (todoOf 4 (bodyOf Tryz.f92)) [(0, AV.str t0), (1, AV.bool t1), (5, AV.int .i64 t5)] []) a b := by kernel_rfl
theorem x9all_s4 (r : Rec (dens [.bool])) (t0 : ByteArray) (t1 : Bool) (t5 : Int) : evT x9all_E x9all_h r 3000 true (todoOf 4 (bodyOf Tryz.f92)) [(0, AV.str t0), (1, AV.bool t1), (5, AV.int .i64 t5)] [] = x9all_b4 (fun t0 t1 t5 => r (todoOf 4 (bodyOf Tryz.f92)) [(0, AV.str t0), (1, AV.bool t1), (5, AV.int .i64 t5)] []) t0 t1 t5 := by kernel_rfl
theorem x9all_k : ∀ k, (∀ (t0 : ByteArray) (t1 : Bool) (t5 : Int), evK x9all_E x9all_h 3000 k (todoOf 4 (bodyOf Tryz.f92)) [(0, AV.str t0), (1, AV.bool t1), (5, AV.int .i64 t5)] [] = x9all_L4 k t0 t1 t5)
  | 0 => by
    refine ?_ <;> intros <;> rfl
  | k + 1 => by
    have ih := x9all_k k
    refine ?_ <;> intros
    · exact ((x9all_s4 _ _ _ _).trans (by simp only [ih] <;> rfl))
theorem x9all_ev (k : Nat) (a : ByteArray) (b : Bool) : evM x9all_E x9all_h 3000 k [.code (bodyOf Tryz.f92)] (T0 0 [.str a, .bool b]) [] = x9all_b0 (x9all_L4 k) a b := by
  refine (x9all_s0 _ a b).trans ?_
  simp only [x9all_k k] <;> rfl

end
end Go.RX.S
