/- What functions compute, printed. -/
import Derived.Test.YtkiihodbgdnijaaGreatDoorKd
set_option linter.unusedVariables false
set_option linter.unusedSimpArgs false
namespace Go.RX.S
open Go Go.RX Go.Proofs
noncomputable section
/-! ### plumb/plumblaw09.bare -/
def x9bare_h : Nat → Option Head := hintOf [(2, ⟨[(0, .same)], 0⟩), (10, ⟨[(3, .same), (4, .same)], 1⟩)]
def x9bare_b0 (l2 : ByteArray → Option ByteArray) (l10 : Int → List Int → Option ByteArray) (a : ByteArray) : Option (ByteArray) :=
  l2 a
def x9bare_b2 (l2 : ByteArray → Option ByteArray) (l10 : Int → List Int → Option ByteArray) (t0 : ByteArray) : Option (ByteArray) :=
  bif decide ((↑(ByteArray.size t0) : Int) > (0 : Int)) then
  bif inRange (0 : Int) (ByteArray.size t0) then
    bif decide (byteAt t0 (0 : Int) = (48 : Int)) then
      bif decide ((1 : Int) ≤ (↑(ByteArray.size t0) : Int)) then l2 (ByteArray.extract t0 1 (Int.toNat (↑(ByteArray.size t0) : Int))) else none
    else l10 (0 : Int) (bytesI t0)
  else none
else l10 (0 : Int) (bytesI t0)
def x9bare_b10 (l2 : ByteArray → Option ByteArray) (l10 : Int → List Int → Option ByteArray) (t4 : Int) (h0 : List Int) : Option (ByteArray) :=
  bif decide (t4 < (↑(List.length h0) : Int)) then
  bif inRange t4 (List.length h0) then
    bif decide (rdN h0 (Int.toNat t4) ≥ (65 : Int)) then
      bif inRange t4 (List.length h0) then
        bif decide (rdN h0 (Int.toNat t4) ≤ (70 : Int)) then
          bif inRange t4 (List.length h0) then
            bif inRange t4 (List.length h0) then l10 (addI .i64 t4 (1 : Int)) (wrI h0 (Int.toNat t4) (addI .u8 (rdN h0 (Int.toNat t4)) (32 : Int))) else none
          else none
        else l10 (addI .i64 t4 (1 : Int)) h0
      else none
    else l10 (addI .i64 t4 (1 : Int)) h0
  else none
else some (strOfI h0)
mutual
def x9bare_L2 : Nat → ByteArray → Option (ByteArray)
  | 0, _ => none
  | k + 1, t0 => x9bare_b2 (x9bare_L2 k) (x9bare_L10 k) t0
def x9bare_L10 : Nat → Int → (List Int) → Option (ByteArray)
  | 0, _, _ => none
  | k + 1, t4, h0 => x9bare_b10 (x9bare_L2 k) (x9bare_L10 k) t4 h0
end
noncomputable def x9bare_E : Env (dens [.str]) := envOf S.tab [] Tryz.f83 [2] [.str]
theorem x9bare_s0 (r : Rec (dens [.str])) (a : ByteArray) : evT x9bare_E x9bare_h r 3000 false [.code (bodyOf Tryz.f83)] (T0 0 [.str a]) [] = x9bare_b0 (fun t0 => r (todoOf 2 (bodyOf Tryz.f83)) [(0, AV.str t0)] []) (fun t4 h0 => r (todoOf 10 (bodyOf Tryz.f83)) [(3, AV.vec 0 1), (4, AV.int .i64 t4)] [Blk.I 2000005 .u8 h0]) a := by kernel_rfl
theorem x9bare_s2 (r : Rec (dens [.str])) (t0 : ByteArray) : evT x9bare_E x9bare_h r 3000 true (todoOf 2 (bodyOf Tryz.f83)) [(0, AV.str t0)] [] = x9bare_b2 (fun t0 => r (todoOf 2 (bodyOf Tryz.f83)) [(0, AV.str t0)] []) (fun t4 h0 => r (todoOf 10 (bodyOf Tryz.f83)) [(3, AV.vec 0 1), (4, AV.int .i64 t4)] [Blk.I 2000005 .u8 h0]) t0 := by kernel_rfl
theorem x9bare_s10 (r : Rec (dens [.str])) (t4 : Int) (h0 : List Int) : evT x9bare_E x9bare_h r 3000 true (todoOf 10 (bodyOf Tryz.f83)) [(3, AV.vec 0 1), (4, AV.int .i64 t4)] [Blk.I 2000005 .u8 h0] = x9bare_b10 (fun t0 => r (todoOf 2 (bodyOf Tryz.f83)) [(0, AV.str t0)] []) (fun t4 h0 => r (todoOf 10 (bodyOf Tryz.f83)) [(3, AV.vec 0 1), (4, AV.int .i64 t4)] [Blk.I 2000005 .u8 h0]) t4 h0 := by kernel_rfl
theorem x9bare_k : ∀ k, (∀ (t0 : ByteArray), evK x9bare_E x9bare_h 3000 k (todoOf 2 (bodyOf Tryz.f83)) [(0, AV.str t0)] [] = x9bare_L2 k t0) ∧ (∀ (t4 : Int) (h0 : List Int), evK x9bare_E x9bare_h 3000 k (todoOf 10 (bodyOf Tryz.f83)) [(3, AV.vec 0 1), (4, AV.int .i64 t4)] [Blk.I 2000005 .u8 h0] = x9bare_L10 k t4 h0)
  | 0 => by
    refine ⟨?_, ?_⟩ <;> intros <;> rfl
  | k + 1 => by
    have ih := x9bare_k k
    refine ⟨?_, ?_⟩ <;> intros
    · exact ((x9bare_s2 _ _).trans (by simp only [ih] <;> rfl))
    · exact ((x9bare_s10 _ _ _).trans (by simp only [ih] <;> rfl))
theorem x9bare_ev (k : Nat) (a : ByteArray) : evM x9bare_E x9bare_h 3000 k [.code (bodyOf Tryz.f83)] (T0 0 [.str a]) [] = x9bare_b0 (x9bare_L2 k) (x9bare_L10 k) a := by
  refine (x9bare_s0 _ a).trans ?_
  simp only [x9bare_k k] <;> rfl

end
end Go.RX.S
