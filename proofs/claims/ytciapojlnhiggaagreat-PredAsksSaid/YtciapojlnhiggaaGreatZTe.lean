/- What functions compute, printed. -/
import Derived.Test.YtciapojlnhiggaaGreatZSf
set_option linter.unusedVariables false
set_option linter.unusedSimpArgs false
namespace Go.RX.S
open Go Go.RX
noncomputable section
def wDiv_h : Nat → Option Head := hintOf [(22, ⟨[(2, .same), (9, .same), (10, .same), (11, .same), (12, .same), (44, .same)], 1⟩), (30, ⟨[(2, .same), (9, .same), (10, .same), (11, .same), (12, .same), (13, .same), (14, .same), (15, .same), (44, .same)], 1⟩)]
def wDiv_b0 (l22 : Int → Int → Int → Int → Int → List Int → Option (Int × Int × Int)) (l30 : Int → Int → Int → Int → Int → Int → Int → Int → List Int → Option (Int × Int × Int)) (a : Int) (b : Int) (c : Int) : Option (Int × Int × Int) :=
  bif decide (c = (0 : Int)) then some ((0 : Int), (0 : Int), (10 : Int))
else
  bif decide (a ≥ c) then some ((0 : Int), (0 : Int), (11 : Int))
  else
    Option.bind (wLenF c) fun t =>
      bif decide ((0 : Int) ≤ subI IntKind.i64 (64 : Int) t) then
        bif decide ((0 : Int) ≤ subI IntKind.i64 (64 : Int) t) then
          bif decide ((0 : Int) ≤ subI IntKind.i64 (64 : Int) (subI IntKind.i64 (64 : Int) t)) then
            bif decide ((0 : Int) ≤ subI IntKind.i64 (64 : Int) t) then
              bif decide ((0 : Int) ≤ subI IntKind.i64 (64 : Int) t) then
                l22 (shlI IntKind.u64 c (subI IntKind.i64 (64 : Int) t)) (subI IntKind.i64 (64 : Int) t)
                  (orI IntKind.u64 (shlI IntKind.u64 a (subI IntKind.i64 (64 : Int) t)) (shrI IntKind.u64 b (subI IntKind.i64 (64 : Int) (subI IntKind.i64 (64 : Int) t)))) (0 : Int) (0 : Int)
                  [shrI IntKind.u64 (shlI IntKind.u64 b (subI IntKind.i64 (64 : Int) t)) (32 : Int), andI IntKind.u64 (shlI IntKind.u64 b (subI IntKind.i64 (64 : Int) t)) (4294967295 : Int)]
              else none
            else none
          else none
        else none
      else none
def wDiv_b22 (l22 : Int → Int → Int → Int → Int → List Int → Option (Int × Int × Int)) (l30 : Int → Int → Int → Int → Int → Int → Int → Int → List Int → Option (Int × Int × Int)) (t2 : Int) (t9 : Int) (t10 : Int) (t12 : Int) (t44 : Int) (h0 : List Int) : Option (Int × Int × Int) :=
  bif decide (t44 < (2 : Int)) then
  bif !decide (shrI IntKind.u64 t2 (32 : Int) = (0 : Int)) then
    bif !decide (shrI IntKind.u64 t2 (32 : Int) = (0 : Int)) then l30 t2 t9 t10 t12 t44 (divI IntKind.u64 t10 (shrI IntKind.u64 t2 (32 : Int))) (remI t10 (shrI IntKind.u64 t2 (32 : Int))) t44 h0
    else none
  else none
else bif decide ((0 : Int) ≤ t9) then some (t12, shrI IntKind.u64 t10 t9, (0 : Int)) else none
def wDiv_b30 (l22 : Int → Int → Int → Int → Int → List Int → Option (Int × Int × Int)) (l30 : Int → Int → Int → Int → Int → Int → Int → Int → List Int → Option (Int × Int × Int)) (t2 : Int) (t9 : Int) (t10 : Int) (t12 : Int) (t13 : Int) (t14 : Int) (t15 : Int) (t44 : Int) (h0 : List Int) : Option (Int × Int × Int) :=
  bif decide (t14 > (4294967295 : Int)) then
  bif decide (addI IntKind.u64 t15 (shrI IntKind.u64 t2 (32 : Int)) > (4294967295 : Int)) then
    bif bif inRange t13 (nat_lit 2) then decide (List.length h0 = nat_lit 2) else false then
      l22 t2 t9 (subI IntKind.u64 (addI IntKind.u64 (shlI IntKind.u64 t10 (32 : Int)) (rdN h0 (Int.toNat t13))) (mulI IntKind.u64 (subI IntKind.u64 t14 (1 : Int)) t2))
        (orI IntKind.u64 (shlI IntKind.u64 t12 (32 : Int)) (subI IntKind.u64 t14 (1 : Int))) (addI IntKind.i64 t44 (1 : Int)) h0
    else none
  else l30 t2 t9 t10 t12 t13 (subI IntKind.u64 t14 (1 : Int)) (addI IntKind.u64 t15 (shrI IntKind.u64 t2 (32 : Int))) t44 h0
else
  bif bif inRange t13 (nat_lit 2) then decide (List.length h0 = nat_lit 2) else false then
    bif decide (mulI IntKind.u64 t14 (andI IntKind.u64 t2 (4294967295 : Int)) > orI IntKind.u64 (shlI IntKind.u64 t15 (32 : Int)) (rdN h0 (Int.toNat t13))) then
      bif decide (addI IntKind.u64 t15 (shrI IntKind.u64 t2 (32 : Int)) > (4294967295 : Int)) then
        bif bif inRange t13 (nat_lit 2) then decide (List.length h0 = nat_lit 2) else false then
          l22 t2 t9 (subI IntKind.u64 (addI IntKind.u64 (shlI IntKind.u64 t10 (32 : Int)) (rdN h0 (Int.toNat t13))) (mulI IntKind.u64 (subI IntKind.u64 t14 (1 : Int)) t2))
            (orI IntKind.u64 (shlI IntKind.u64 t12 (32 : Int)) (subI IntKind.u64 t14 (1 : Int))) (addI IntKind.i64 t44 (1 : Int)) h0
        else none
      else l30 t2 t9 t10 t12 t13 (subI IntKind.u64 t14 (1 : Int)) (addI IntKind.u64 t15 (shrI IntKind.u64 t2 (32 : Int))) t44 h0
    else
      bif bif inRange t13 (nat_lit 2) then decide (List.length h0 = nat_lit 2) else false then
        l22 t2 t9 (subI IntKind.u64 (addI IntKind.u64 (shlI IntKind.u64 t10 (32 : Int)) (rdN h0 (Int.toNat t13))) (mulI IntKind.u64 t14 t2)) (orI IntKind.u64 (shlI IntKind.u64 t12 (32 : Int)) t14)
          (addI IntKind.i64 t44 (1 : Int)) h0
      else none
  else none
mutual
def wDiv_L22 : Nat → Int → Int → Int → Int → Int → (List Int) → Option (Int × Int × Int)
  | 0, _, _, _, _, _, _ => none
  | k + 1, t2, t9, t10, t12, t44, h0 => wDiv_b22 (wDiv_L22 k) (wDiv_L30 k) t2 t9 t10 t12 t44 h0
def wDiv_L30 : Nat → Int → Int → Int → Int → Int → Int → Int → Int → (List Int) → Option (Int × Int × Int)
  | 0, _, _, _, _, _, _, _, _, _ => none
  | k + 1, t2, t9, t10, t12, t13, t14, t15, t44, h0 => wDiv_b30 (wDiv_L22 k) (wDiv_L30 k) t2 t9 t10 t12 t13 t14 t15 t44 h0
end
noncomputable def wDiv_E : Env (dens [.int .u64, .int .u64, .int .i64]) := envOf S.tab [(113, mkF [.int .u64] [.int .i64] wLenF)] Go.Proofs.Tryz.f121 [6, 7, 8] [.int .u64, .int .u64, .int .i64]
theorem wDiv_s0 (r : Rec (dens [.int .u64, .int .u64, .int .i64])) (a : Int) (b : Int) (c : Int) : evT wDiv_E wDiv_h r 3000 false [.code (bodyOf Go.Proofs.Tryz.f121)] (T0 0 [.int .u64 a, .int .u64 b, .int .u64 c]) [] = wDiv_b0 (fun t2 t9 t10 t12 t44 h0 => r (todoOf 22 (bodyOf Go.Proofs.Tryz.f121)) [((2 : Nat), AV.int IntKind.u64 t2), ((9 : Nat), AV.int IntKind.i64 t9), ((10 : Nat), AV.int IntKind.u64 t10), ((11 : Nat), AV.ptr (nat_lit 0) (nat_lit 1) (nat_lit 0) (nat_lit 0)),
  ((12 : Nat), AV.int IntKind.u64 t12), ((44 : Nat), AV.int IntKind.i64 t44)] [Blk.I 153 IntKind.u64 h0]) (fun t2 t9 t10 t12 t13 t14 t15 t44 h0 => r (todoOf 30 (bodyOf Go.Proofs.Tryz.f121)) [((2 : Nat), AV.int IntKind.u64 t2), ((9 : Nat), AV.int IntKind.i64 t9), ((10 : Nat), AV.int IntKind.u64 t10), ((11 : Nat), AV.ptr (nat_lit 0) (nat_lit 1) (nat_lit 0) (nat_lit 0)),
  ((12 : Nat), AV.int IntKind.u64 t12), ((13 : Nat), AV.int IntKind.i64 t13), ((14 : Nat), AV.int IntKind.u64 t14), ((15 : Nat), AV.int IntKind.u64 t15), ((44 : Nat), AV.int IntKind.i64 t44)] [Blk.I 153 IntKind.u64 h0]) a b c := by kernel_rfl
theorem wDiv_s22 (r : Rec (dens [.int .u64, .int .u64, .int .i64])) (t2 : Int) (t9 : Int) (t10 : Int) (t12 : Int) (t44 : Int) (h0 : List Int) : evT wDiv_E wDiv_h r 3000 true (todoOf 22 (bodyOf Go.Proofs.Tryz.f121)) [((2 : Nat), AV.int IntKind.u64 t2), ((9 : Nat), AV.int IntKind.i64 t9), ((10 : Nat), AV.int IntKind.u64 t10), ((11 : Nat), AV.ptr (nat_lit 0) (nat_lit 1) (nat_lit 0) (nat_lit 0)),
  ((12 : Nat), AV.int IntKind.u64 t12), ((44 : Nat), AV.int IntKind.i64 t44)] [Blk.I 153 IntKind.u64 h0] = wDiv_b22 (fun t2 t9 t10 t12 t44 h0 => r (todoOf 22 (bodyOf Go.Proofs.Tryz.f121)) [((2 : Nat), AV.int IntKind.u64 t2), ((9 : Nat), AV.int IntKind.i64 t9), ((10 : Nat), AV.int IntKind.u64 t10), ((11 : Nat), AV.ptr (nat_lit 0) (nat_lit 1) (nat_lit 0) (nat_lit 0)),
  ((12 : Nat), AV.int IntKind.u64 t12), ((44 : Nat), AV.int IntKind.i64 t44)] [Blk.I 153 IntKind.u64 h0]) (fun t2 t9 t10 t12 t13 t14 t15 t44 h0 => r (todoOf 30 (bodyOf Go.Proofs.Tryz.f121)) [((2 : Nat), AV.int IntKind.u64 t2), ((9 : Nat), AV.int IntKind.i64 t9), ((10 : Nat), AV.int IntKind.u64 t10), ((11 : Nat), AV.ptr (nat_lit 0) (nat_lit 1) (nat_lit 0) (nat_lit 0)),
  ((12 : Nat), AV.int IntKind.u64 t12), ((13 : Nat), AV.int IntKind.i64 t13), ((14 : Nat), AV.int IntKind.u64 t14), ((15 : Nat), AV.int IntKind.u64 t15), ((44 : Nat), AV.int IntKind.i64 t44)] [Blk.I 153 IntKind.u64 h0]) t2 t9 t10 t12 t44 h0 := by kernel_rfl
theorem wDiv_s30 (r : Rec (dens [.int .u64, .int .u64, .int .i64])) (t2 : Int) (t9 : Int) (t10 : Int) (t12 : Int) (t13 : Int) (t14 : Int) (t15 : Int) (t44 : Int) (h0 : List Int) : evT wDiv_E wDiv_h r 3000 true (todoOf 30 (bodyOf Go.Proofs.Tryz.f121)) [((2 : Nat), AV.int IntKind.u64 t2), ((9 : Nat), AV.int IntKind.i64 t9), ((10 : Nat), AV.int IntKind.u64 t10), ((11 : Nat), AV.ptr (nat_lit 0) (nat_lit 1) (nat_lit 0) (nat_lit 0)),
  ((12 : Nat), AV.int IntKind.u64 t12), ((13 : Nat), AV.int IntKind.i64 t13), ((14 : Nat), AV.int IntKind.u64 t14), ((15 : Nat), AV.int IntKind.u64 t15), ((44 : Nat), AV.int IntKind.i64 t44)] [Blk.I 153 IntKind.u64 h0] = wDiv_b30 (fun t2 t9 t10 t12 t44 h0 => r (todoOf 22 (bodyOf Go.Proofs.Tryz.f121)) [((2 : Nat), AV.int IntKind.u64 t2), ((9 : Nat), AV.int IntKind.i64 t9), ((10 : Nat), AV.int IntKind.u64 t10), ((11 : Nat), AV.ptr (nat_lit 0) (nat_lit 1) (nat_lit 0) (nat_lit 0)),
  ((12 : Nat), AV.int IntKind.u64 t12), ((44 : Nat), AV.int IntKind.i64 t44)] [Blk.I 153 IntKind.u64 h0]) (fun t2 t9 t10 t12 t13 t14 t15 t44 h0 => r (todoOf 30 (bodyOf Go.Proofs.Tryz.f121)) [((2 : Nat), AV.int IntKind.u64 t2), ((9 : Nat), AV.int IntKind.i64 t9), ((10 : Nat), AV.int IntKind.u64 t10), ((11 : Nat), AV.ptr (nat_lit 0) (nat_lit 1) (nat_lit 0) (nat_lit 0)),
  ((12 : Nat), AV.int IntKind.u64 t12), ((13 : Nat), AV.int IntKind.i64 t13), ((14 : Nat), AV.int IntKind.u64 t14), ((15 : Nat), AV.int IntKind.u64 t15), ((44 : Nat), AV.int IntKind.i64 t44)] [Blk.I 153 IntKind.u64 h0]) t2 t9 t10 t12 t13 t14 t15 t44 h0 := by kernel_rfl
theorem wDiv_k : ∀ k, (∀ (t2 : Int) (t9 : Int) (t10 : Int) (t12 : Int) (t44 : Int) (h0 : List Int), evK wDiv_E wDiv_h 3000 k (todoOf 22 (bodyOf Go.Proofs.Tryz.f121)) [((2 : Nat), AV.int IntKind.u64 t2), ((9 : Nat), AV.int IntKind.i64 t9), ((10 : Nat), AV.int IntKind.u64 t10), ((11 : Nat), AV.ptr (nat_lit 0) (nat_lit 1) (nat_lit 0) (nat_lit 0)),
  ((12 : Nat), AV.int IntKind.u64 t12), ((44 : Nat), AV.int IntKind.i64 t44)] [Blk.I 153 IntKind.u64 h0] = wDiv_L22 k t2 t9 t10 t12 t44 h0) ∧ (∀ (t2 : Int) (t9 : Int) (t10 : Int) (t12 : Int) (t13 : Int) (t14 : Int) (t15 : Int) (t44 : Int) (h0 : List Int), evK wDiv_E wDiv_h 3000 k (todoOf 30 (bodyOf Go.Proofs.Tryz.f121)) [((2 : Nat), AV.int IntKind.u64 t2), ((9 : Nat), AV.int IntKind.i64 t9), ((10 : Nat), AV.int IntKind.u64 t10), ((11 : Nat), AV.ptr (nat_lit 0) (nat_lit 1) (nat_lit 0) (nat_lit 0)),
  ((12 : Nat), AV.int IntKind.u64 t12), ((13 : Nat), AV.int IntKind.i64 t13), ((14 : Nat), AV.int IntKind.u64 t14), ((15 : Nat), AV.int IntKind.u64 t15), ((44 : Nat), AV.int IntKind.i64 t44)] [Blk.I 153 IntKind.u64 h0] = wDiv_L30 k t2 t9 t10 t12 t13 t14 t15 t44 h0)
  | 0 => by
    refine ⟨?_, ?_⟩ <;> intros <;> rfl
  | k + 1 => by
    have ih := wDiv_k k
    refine ⟨?_, ?_⟩ <;> intros
    · exact ((wDiv_s22 _ _ _ _ _ _ _).trans (by simp only [ih] <;> rfl))
    · exact ((wDiv_s30 _ _ _ _ _ _ _ _ _ _).trans (by simp only [ih] <;> rfl))
theorem wDiv_ev (k : Nat) (a : Int) (b : Int) (c : Int) : evM wDiv_E wDiv_h 3000 k [.code (bodyOf Go.Proofs.Tryz.f121)] (T0 0 [.int .u64 a, .int .u64 b, .int .u64 c]) [] = wDiv_b0 (wDiv_L22 k) (wDiv_L30 k) a b c := by
  refine (wDiv_s0 _ a b c).trans ?_
  simp only [wDiv_k k] <;> rfl
def qshl_h : Nat → Option Head := hintOf [(8, ⟨[(0, .same), (1, .same), (2, .same), (7, .same), (8, .same), (15, .same), (16, .same), (17, .same)], 1⟩)]
def qshl_b0 (l8 : List Int → Int → Int → Int → List Int → Int → Int → List Int → Option (List Int)) (a : List Int) (b : Int) (c : Int) : Option (List Int) :=
  bif bif decide ((0 : Int) ≤ c) then decide (c * (8 : Int) ≤ (281474976710656 : Int)) else false then l8 a b c (0 : Int) a (↑(List.length a) : Int) (0 : Int) (List.replicate (Int.toNat c) (0 : Int))
else none
def qshl_b8 (l8 : List Int → Int → Int → Int → List Int → Int → Int → List Int → Option (List Int)) (t0 : List Int) (t1 : Int) (t2 : Int) (t8 : Int) (t15 : List Int) (t16 : Int) (t17 : Int) (h0 : List Int) : Option (List Int) :=
  bif decide (t17 < t16) then
  bif inRange t17 (List.length t15) then
    Option.bind (wShlF ((0 : Int), rdI t15 t17, t1)) fun t =>
      bif inRange t17 (List.length h0) then l8 t0 t1 t2 t.1 t15 t16 (addI IntKind.i64 t17 (1 : Int)) (wrI h0 (Int.toNat t17) (orI IntKind.u64 t.2 t8)) else none
  else none
else bif decide ((↑(List.length t0) : Int) < t2) then bif inRange (↑(List.length t0) : Int) (List.length h0) then some (wrI h0 (Int.toNat (↑(List.length t0) : Int)) t8) else none else some h0
mutual
def qshl_L8 : Nat → (List Int) → Int → Int → Int → (List Int) → Int → Int → (List Int) → Option (List Int)
  | 0, _, _, _, _, _, _, _, _ => none
  | k + 1, t0, t1, t2, t8, t15, t16, t17, h0 => qshl_b8 (qshl_L8 k) t0 t1 t2 t8 t15 t16 t17 h0
end
noncomputable def qshl_E : Env (List Int) := envN S.tab [(101, mkF [.int .u64, .int .u64, .int .i64] [.int .u64, .int .u64] wShlF)] Go.Proofs.Tryz.f122 [6] 22 .u64
theorem qshl_s0 (r : Rec (List Int)) (a : List Int) (b : Int) (c : Int) : evT qshl_E qshl_h r 3000 false [.code (bodyOf Go.Proofs.Tryz.f122)] (T0 0 [.ints .u64 a, .int .i64 b, .int .i64 c]) [] = qshl_b0 (fun t0 t1 t2 t8 t15 t16 t17 h0 => r (todoOf 8 (bodyOf Go.Proofs.Tryz.f122)) [((0 : Nat), AV.ints IntKind.u64 t0), ((1 : Nat), AV.int IntKind.i64 t1), ((2 : Nat), AV.int IntKind.i64 t2), ((7 : Nat), AV.vec (nat_lit 0) (nat_lit 1)), ((8 : Nat), AV.int IntKind.u64 t8),
  ((15 : Nat), AV.ints IntKind.u64 t15), ((16 : Nat), AV.int IntKind.i64 t16), ((17 : Nat), AV.int IntKind.i64 t17)] [Blk.I 22 IntKind.u64 h0]) a b c := by kernel_rfl
theorem qshl_s8 (r : Rec (List Int)) (t0 : List Int) (t1 : Int) (t2 : Int) (t8 : Int) (t15 : List Int) (t16 : Int) (t17 : Int) (h0 : List Int) : evT qshl_E qshl_h r 3000 true (todoOf 8 (bodyOf Go.Proofs.Tryz.f122)) [((0 : Nat), AV.ints IntKind.u64 t0), ((1 : Nat), AV.int IntKind.i64 t1), ((2 : Nat), AV.int IntKind.i64 t2), ((7 : Nat), AV.vec (nat_lit 0) (nat_lit 1)), ((8 : Nat), AV.int IntKind.u64 t8),
  ((15 : Nat), AV.ints IntKind.u64 t15), ((16 : Nat), AV.int IntKind.i64 t16), ((17 : Nat), AV.int IntKind.i64 t17)] [Blk.I 22 IntKind.u64 h0] = qshl_b8 (fun t0 t1 t2 t8 t15 t16 t17 h0 => r (todoOf 8 (bodyOf Go.Proofs.Tryz.f122)) [((0 : Nat), AV.ints IntKind.u64 t0), ((1 : Nat), AV.int IntKind.i64 t1), ((2 : Nat), AV.int IntKind.i64 t2), ((7 : Nat), AV.vec (nat_lit 0) (nat_lit 1)), ((8 : Nat), AV.int IntKind.u64 t8),
  ((15 : Nat), AV.ints IntKind.u64 t15), ((16 : Nat), AV.int IntKind.i64 t16), ((17 : Nat), AV.int IntKind.i64 t17)] [Blk.I 22 IntKind.u64 h0]) t0 t1 t2 t8 t15 t16 t17 h0 := by kernel_rfl
theorem qshl_k : ∀ k, (∀ (t0 : List Int) (t1 : Int) (t2 : Int) (t8 : Int) (t15 : List Int) (t16 : Int) (t17 : Int) (h0 : List Int), evK qshl_E qshl_h 3000 k (todoOf 8 (bodyOf Go.Proofs.Tryz.f122)) [((0 : Nat), AV.ints IntKind.u64 t0), ((1 : Nat), AV.int IntKind.i64 t1), ((2 : Nat), AV.int IntKind.i64 t2), ((7 : Nat), AV.vec (nat_lit 0) (nat_lit 1)), ((8 : Nat), AV.int IntKind.u64 t8),
  ((15 : Nat), AV.ints IntKind.u64 t15), ((16 : Nat), AV.int IntKind.i64 t16), ((17 : Nat), AV.int IntKind.i64 t17)] [Blk.I 22 IntKind.u64 h0] = qshl_L8 k t0 t1 t2 t8 t15 t16 t17 h0)
  | 0 => by
    refine ?_ <;> intros <;> rfl
  | k + 1 => by
    have ih := qshl_k k
    refine ?_ <;> intros
    · exact ((qshl_s8 _ _ _ _ _ _ _ _ _).trans (by simp only [ih] <;> rfl))
theorem qshl_ev (k : Nat) (a : List Int) (b : Int) (c : Int) : evM qshl_E qshl_h 3000 k [.code (bodyOf Go.Proofs.Tryz.f122)] (T0 0 [.ints .u64 a, .int .i64 b, .int .i64 c]) [] = qshl_b0 (qshl_L8 k) a b c := by
  refine (qshl_s0 _ a b c).trans ?_
  simp only [qshl_k k] <;> rfl
def qshr_h : Nat → Option Head := hintOf [(8, ⟨[(0, .same), (1, .same), (5, .same), (6, .same), (7, .same)], 1⟩)]
def qshr_b0 (l8 : List Int → Int → Int → Int → List Int → Option (List Int)) (a : List Int) (b : Int) : Option (List Int) :=
  bif bif decide ((0 : Int) ≤ (↑(List.length a) : Int)) then decide ((↑(List.length a) : Int) * (8 : Int) ≤ (281474976710656 : Int)) else false then
  l8 a b (0 : Int) (subI IntKind.i64 (↑(List.length a) : Int) (1 : Int)) (List.replicate (Int.toNat (↑(List.length a) : Int)) (0 : Int))
else none
def qshr_b8 (l8 : List Int → Int → Int → Int → List Int → Option (List Int)) (t0 : List Int) (t1 : Int) (t6 : Int) (t7 : Int) (h0 : List Int) : Option (List Int) :=
  bif decide (t7 ≥ (0 : Int)) then
  bif inRange t7 (List.length t0) then
    Option.bind (wShrF (t6, rdI t0 t7, t1)) fun t =>
      bif inRange t7 (List.length h0) then bif inRange t7 (List.length t0) then l8 t0 t1 (rdI t0 t7) (subI IntKind.i64 t7 (1 : Int)) (wrI h0 (Int.toNat t7) (Prod.snd t).1) else none else none
  else none
else Option.bind (nNormF h0) fun t => some t
mutual
def qshr_L8 : Nat → (List Int) → Int → Int → Int → (List Int) → Option (List Int)
  | 0, _, _, _, _, _ => none
  | k + 1, t0, t1, t6, t7, h0 => qshr_b8 (qshr_L8 k) t0 t1 t6 t7 h0
end
noncomputable def qshr_E : Env (List Int) := envN S.tab [(126, mkF [.int .u64, .int .u64, .int .i64] [.int .u64, .int .u64, .bool] wShrF), (98, mkN [.sl (.int .u64)] 22 .u64 nNormF)] Go.Proofs.Tryz.f125 [4] 22 .u64
theorem qshr_s0 (r : Rec (List Int)) (a : List Int) (b : Int) : evT qshr_E qshr_h r 3000 false [.code (bodyOf Go.Proofs.Tryz.f125)] (T0 0 [.ints .u64 a, .int .i64 b]) [] = qshr_b0 (fun t0 t1 t6 t7 h0 => r (todoOf 8 (bodyOf Go.Proofs.Tryz.f125)) [((0 : Nat), AV.ints IntKind.u64 t0), ((1 : Nat), AV.int IntKind.i64 t1), ((5 : Nat), AV.vec (nat_lit 0) (nat_lit 1)), ((6 : Nat), AV.int IntKind.u64 t6), ((7 : Nat), AV.int IntKind.i64 t7)] [Blk.I 22 IntKind.u64 h0]) a b := by kernel_rfl
theorem qshr_s8 (r : Rec (List Int)) (t0 : List Int) (t1 : Int) (t6 : Int) (t7 : Int) (h0 : List Int) : evT qshr_E qshr_h r 3000 true (todoOf 8 (bodyOf Go.Proofs.Tryz.f125)) [((0 : Nat), AV.ints IntKind.u64 t0), ((1 : Nat), AV.int IntKind.i64 t1), ((5 : Nat), AV.vec (nat_lit 0) (nat_lit 1)), ((6 : Nat), AV.int IntKind.u64 t6), ((7 : Nat), AV.int IntKind.i64 t7)] [Blk.I 22 IntKind.u64 h0] = qshr_b8 (fun t0 t1 t6 t7 h0 => r (todoOf 8 (bodyOf Go.Proofs.Tryz.f125)) [((0 : Nat), AV.ints IntKind.u64 t0), ((1 : Nat), AV.int IntKind.i64 t1), ((5 : Nat), AV.vec (nat_lit 0) (nat_lit 1)), ((6 : Nat), AV.int IntKind.u64 t6), ((7 : Nat), AV.int IntKind.i64 t7)] [Blk.I 22 IntKind.u64 h0]) t0 t1 t6 t7 h0 := by kernel_rfl
theorem qshr_k : ∀ k, (∀ (t0 : List Int) (t1 : Int) (t6 : Int) (t7 : Int) (h0 : List Int), evK qshr_E qshr_h 3000 k (todoOf 8 (bodyOf Go.Proofs.Tryz.f125)) [((0 : Nat), AV.ints IntKind.u64 t0), ((1 : Nat), AV.int IntKind.i64 t1), ((5 : Nat), AV.vec (nat_lit 0) (nat_lit 1)), ((6 : Nat), AV.int IntKind.u64 t6), ((7 : Nat), AV.int IntKind.i64 t7)] [Blk.I 22 IntKind.u64 h0] = qshr_L8 k t0 t1 t6 t7 h0)
  | 0 => by
    refine ?_ <;> intros <;> rfl
  | k + 1 => by
    have ih := qshr_k k
    refine ?_ <;> intros
    · exact ((qshr_s8 _ _ _ _ _ _).trans (by simp only [ih] <;> rfl))
theorem qshr_ev (k : Nat) (a : List Int) (b : Int) : evM qshr_E qshr_h 3000 k [.code (bodyOf Go.Proofs.Tryz.f125)] (T0 0 [.ints .u64 a, .int .i64 b]) [] = qshr_b0 (qshr_L8 k) a b := by
  refine (qshr_s0 _ a b).trans ?_
  simp only [qshr_k k] <;> rfl
def qSmall_h : Nat → Option Head := hintOf [(12, ⟨[(0, .same), (1, .same), (7, .same), (8, .same), (9, .same)], 1⟩)]
def qSmall_b0 (l12 : List Int → Int → Int → Int → List Int → Option (List Int × Int × Int)) (a : List Int) (b : Int) : Option (List Int × Int × Int) :=
  bif decide (b = (0 : Int)) then some ([], (0 : Int), (30 : Int))
else
  bif bif decide ((0 : Int) ≤ (↑(List.length a) : Int)) then decide ((↑(List.length a) : Int) * (8 : Int) ≤ (281474976710656 : Int)) else false then
    l12 a b (0 : Int) (subI IntKind.i64 (↑(List.length a) : Int) (1 : Int)) (List.replicate (Int.toNat (↑(List.length a) : Int)) (0 : Int))
  else none
def qSmall_b12 (l12 : List Int → Int → Int → Int → List Int → Option (List Int × Int × Int)) (t0 : List Int) (t1 : Int) (t8 : Int) (t9 : Int) (h0 : List Int) : Option (List Int × Int × Int) :=
  bif decide (t9 ≥ (0 : Int)) then
  bif inRange t9 (List.length t0) then
    Option.bind (wDivF (t8, rdI t0 t9, t1)) fun t => bif inRange t9 (List.length h0) then l12 t0 t1 (Prod.snd t).1 (subI IntKind.i64 t9 (1 : Int)) (wrI h0 (Int.toNat t9) t.1) else none
  else none
else Option.bind (nNormF h0) fun t => some (t, t8, (0 : Int))
mutual
def qSmall_L12 : Nat → (List Int) → Int → Int → Int → (List Int) → Option (List Int × Int × Int)
  | 0, _, _, _, _, _ => none
  | k + 1, t0, t1, t8, t9, h0 => qSmall_b12 (qSmall_L12 k) t0 t1 t8 t9 h0
end
noncomputable def qSmall_E : Env (dens [.sl (.int .u64), .int .u64, .int .i64]) := envOf S.tab [(121, mkF [.int .u64, .int .u64, .int .u64] [.int .u64, .int .u64, .int .i64] wDivF), (98, mkF [.sl (.int .u64)] [.sl (.int .u64)] nNormF)] Go.Proofs.Tryz.f119 [4, 5, 6] [.sl (.int .u64), .int .u64, .int .i64]
theorem qSmall_s0 (r : Rec (dens [.sl (.int .u64), .int .u64, .int .i64])) (a : List Int) (b : Int) : evT qSmall_E qSmall_h r 3000 false [.code (bodyOf Go.Proofs.Tryz.f119)] (T0 0 [.ints .u64 a, .int .u64 b]) [] = qSmall_b0 (fun t0 t1 t8 t9 h0 => r (todoOf 12 (bodyOf Go.Proofs.Tryz.f119)) [((0 : Nat), AV.ints IntKind.u64 t0), ((1 : Nat), AV.int IntKind.u64 t1), ((7 : Nat), AV.vec (nat_lit 0) (nat_lit 1)), ((8 : Nat), AV.int IntKind.u64 t8), ((9 : Nat), AV.int IntKind.i64 t9)] [Blk.I 22 IntKind.u64 h0]) a b := by kernel_rfl
theorem qSmall_s12 (r : Rec (dens [.sl (.int .u64), .int .u64, .int .i64])) (t0 : List Int) (t1 : Int) (t8 : Int) (t9 : Int) (h0 : List Int) : evT qSmall_E qSmall_h r 3000 true (todoOf 12 (bodyOf Go.Proofs.Tryz.f119)) [((0 : Nat), AV.ints IntKind.u64 t0), ((1 : Nat), AV.int IntKind.u64 t1), ((7 : Nat), AV.vec (nat_lit 0) (nat_lit 1)), ((8 : Nat), AV.int IntKind.u64 t8), ((9 : Nat), AV.int IntKind.i64 t9)] [Blk.I 22 IntKind.u64 h0] = qSmall_b12 (fun t0 t1 t8 t9 h0 => r (todoOf 12 (bodyOf Go.Proofs.Tryz.f119)) [((0 : Nat), AV.ints IntKind.u64 t0), ((1 : Nat), AV.int IntKind.u64 t1), ((7 : Nat), AV.vec (nat_lit 0) (nat_lit 1)), ((8 : Nat), AV.int IntKind.u64 t8), ((9 : Nat), AV.int IntKind.i64 t9)] [Blk.I 22 IntKind.u64 h0]) t0 t1 t8 t9 h0 := by kernel_rfl
theorem qSmall_k : ∀ k, (∀ (t0 : List Int) (t1 : Int) (t8 : Int) (t9 : Int) (h0 : List Int), evK qSmall_E qSmall_h 3000 k (todoOf 12 (bodyOf Go.Proofs.Tryz.f119)) [((0 : Nat), AV.ints IntKind.u64 t0), ((1 : Nat), AV.int IntKind.u64 t1), ((7 : Nat), AV.vec (nat_lit 0) (nat_lit 1)), ((8 : Nat), AV.int IntKind.u64 t8), ((9 : Nat), AV.int IntKind.i64 t9)] [Blk.I 22 IntKind.u64 h0] = qSmall_L12 k t0 t1 t8 t9 h0)
  | 0 => by
    refine ?_ <;> intros <;> rfl
  | k + 1 => by
    have ih := qSmall_k k
    refine ?_ <;> intros
    · exact ((qSmall_s12 _ _ _ _ _ _).trans (by simp only [ih] <;> rfl))
theorem qSmall_ev (k : Nat) (a : List Int) (b : Int) : evM qSmall_E qSmall_h 3000 k [.code (bodyOf Go.Proofs.Tryz.f119)] (T0 0 [.ints .u64 a, .int .u64 b]) [] = qSmall_b0 (qSmall_L12 k) a b := by
  refine (qSmall_s0 _ a b).trans ?_
  simp only [qSmall_k k] <;> rfl
def take_h : Nat → Option Head := hintOf [(6, ⟨[(0, .same), (1, .same), (2, .same), (7, .same), (8, .same), (14, .same), (15, .same), (16, .same)], 1⟩)]
def take_b0 (l6 : Nat → Nat → List Int → Int → Int → Int → List Int → Int → Int → List Int → Option (List Int × Bool)) (o : Nat) (n : Nat) (h : List Int) (a : List Int) (b : Int) : Option (List Int × Bool) :=
  l6 o n a b (0 : Int) (0 : Int) a (↑(List.length a) : Int) (0 : Int) h
def take_b6 (l6 : Nat → Nat → List Int → Int → Int → Int → List Int → Int → Int → List Int → Option (List Int × Bool)) (t0o : Nat) (t0n : Nat) (t1 : List Int) (t2 : Int) (t7 : Int) (t8 : Int) (t14 : List Int) (t15 : Int) (t16 : Int) (h0 : List Int) : Option (List Int × Bool) :=
  bif decide (t16 < t15) then
  bif inRange t16 (List.length t14) then
    Option.bind (wMulF (rdI t14 t16, t2)) fun t =>
      Option.bind (wAddF (t.2, t7, (0 : Int))) fun t_1 =>
        bif inRange t16 t0n then
          Option.bind (wSubF (rdN h0 (t0o + Int.toNat t16), t_1.1, t8)) fun t_2 =>
            bif inRange t16 t0n then l6 t0o t0n t1 t2 (addI IntKind.u64 t.1 t_1.2) t_2.2 t14 t15 (addI IntKind.i64 t16 (1 : Int)) (wrI h0 (t0o + Int.toNat t16) t_2.1) else none
        else none
  else none
else
  bif inRange (↑(List.length t1) : Int) t0n then
    Option.bind (wSubF (rdN h0 (t0o + Int.toNat (↑(List.length t1) : Int)), t7, t8)) fun t =>
      bif inRange (↑(List.length t1) : Int) t0n then some (wrI h0 (t0o + Int.toNat (↑(List.length t1) : Int)) t.1, decide (t.2 = (1 : Int))) else none
  else none
mutual
def take_L6 : Nat → Nat → Nat → (List Int) → Int → Int → Int → (List Int) → Int → Int → (List Int) → Option (List Int × Bool)
  | 0, _, _, _, _, _, _, _, _, _, _ => none
  | k + 1, t0o, t0n, t1, t2, t7, t8, t14, t15, t16, h0 => take_b6 (take_L6 k) t0o t0n t1 t2 t7 t8 t14 t15 t16 h0
end
noncomputable def take_E : Env (List Int × dens [.bool]) := envM S.tab [(116, mkF [.int .u64, .int .u64] [.int .u64, .int .u64] wMulF), (117, mkF [.int .u64, .int .u64, .int .u64] [.int .u64, .int .u64] wAddF), (111, mkF [.int .u64, .int .u64, .int .u64] [.int .u64, .int .u64] wSubF)] Go.Proofs.Tryz.f123 [6] [.bool] 22 .u64
theorem take_s0 (r : Rec (List Int × dens [.bool])) (o : Nat) (n : Nat) (h : List Int) (a : List Int) (b : Int) : evT take_E take_h r 3000 false [.code (bodyOf Go.Proofs.Tryz.f123)] (T0 0 [.ref 0 1 o n none, .ints .u64 a, .int .u64 b]) [.I 1000022 .u64 h] = take_b0 (fun t0o t0n t1 t2 t7 t8 t14 t15 t16 h0 => r (todoOf 6 (bodyOf Go.Proofs.Tryz.f123)) [((0 : Nat), AV.ref (nat_lit 0) (nat_lit 1) t0o t0n none), ((1 : Nat), AV.ints IntKind.u64 t1), ((2 : Nat), AV.int IntKind.u64 t2), ((7 : Nat), AV.int IntKind.u64 t7),
  ((8 : Nat), AV.int IntKind.u64 t8), ((14 : Nat), AV.ints IntKind.u64 t14), ((15 : Nat), AV.int IntKind.i64 t15), ((16 : Nat), AV.int IntKind.i64 t16)] [Blk.I 1000022 IntKind.u64 h0]) o n h a b := by kernel_rfl
theorem take_s6 (r : Rec (List Int × dens [.bool])) (t0o : Nat) (t0n : Nat) (t1 : List Int) (t2 : Int) (t7 : Int) (t8 : Int) (t14 : List Int) (t15 : Int) (t16 : Int) (h0 : List Int) : evT take_E take_h r 3000 true (todoOf 6 (bodyOf Go.Proofs.Tryz.f123)) [((0 : Nat), AV.ref (nat_lit 0) (nat_lit 1) t0o t0n none), ((1 : Nat), AV.ints IntKind.u64 t1), ((2 : Nat), AV.int IntKind.u64 t2), ((7 : Nat), AV.int IntKind.u64 t7),
  ((8 : Nat), AV.int IntKind.u64 t8), ((14 : Nat), AV.ints IntKind.u64 t14), ((15 : Nat), AV.int IntKind.i64 t15), ((16 : Nat), AV.int IntKind.i64 t16)] [Blk.I 1000022 IntKind.u64 h0] = take_b6 (fun t0o t0n t1 t2 t7 t8 t14 t15 t16 h0 => r (todoOf 6 (bodyOf Go.Proofs.Tryz.f123)) [((0 : Nat), AV.ref (nat_lit 0) (nat_lit 1) t0o t0n none), ((1 : Nat), AV.ints IntKind.u64 t1), ((2 : Nat), AV.int IntKind.u64 t2), ((7 : Nat), AV.int IntKind.u64 t7),
  ((8 : Nat), AV.int IntKind.u64 t8), ((14 : Nat), AV.ints IntKind.u64 t14), ((15 : Nat), AV.int IntKind.i64 t15), ((16 : Nat), AV.int IntKind.i64 t16)] [Blk.I 1000022 IntKind.u64 h0]) t0o t0n t1 t2 t7 t8 t14 t15 t16 h0 := by kernel_rfl
theorem take_k : ∀ k, (∀ (t0o : Nat) (t0n : Nat) (t1 : List Int) (t2 : Int) (t7 : Int) (t8 : Int) (t14 : List Int) (t15 : Int) (t16 : Int) (h0 : List Int), evK take_E take_h 3000 k (todoOf 6 (bodyOf Go.Proofs.Tryz.f123)) [((0 : Nat), AV.ref (nat_lit 0) (nat_lit 1) t0o t0n none), ((1 : Nat), AV.ints IntKind.u64 t1), ((2 : Nat), AV.int IntKind.u64 t2), ((7 : Nat), AV.int IntKind.u64 t7),
  ((8 : Nat), AV.int IntKind.u64 t8), ((14 : Nat), AV.ints IntKind.u64 t14), ((15 : Nat), AV.int IntKind.i64 t15), ((16 : Nat), AV.int IntKind.i64 t16)] [Blk.I 1000022 IntKind.u64 h0] = take_L6 k t0o t0n t1 t2 t7 t8 t14 t15 t16 h0)
  | 0 => by
    refine ?_ <;> intros <;> rfl
  | k + 1 => by
    have ih := take_k k
    refine ?_ <;> intros
    · exact ((take_s6 _ _ _ _ _ _ _ _ _ _ _).trans (by simp only [ih] <;> rfl))
theorem take_ev (k : Nat) (o : Nat) (n : Nat) (h : List Int) (a : List Int) (b : Int) : evM take_E take_h 3000 k [.code (bodyOf Go.Proofs.Tryz.f123)] (T0 0 [.ref 0 1 o n none, .ints .u64 a, .int .u64 b]) [.I 1000022 .u64 h] = take_b0 (take_L6 k) o n h a b := by
  refine (take_s0 _ o n h a b).trans ?_
  simp only [take_k k] <;> rfl
def give_h : Nat → Option Head := hintOf [(4, ⟨[(0, .same), (1, .same), (4, .same), (7, .same), (8, .same), (9, .same)], 1⟩)]
def give_b0 (l4 : Nat → Nat → List Int → Int → List Int → Int → Int → List Int → Option (List Int × PUnit)) (o : Nat) (n : Nat) (h : List Int) (a : List Int) : Option (List Int × PUnit) :=
  l4 o n a (0 : Int) a (↑(List.length a) : Int) (0 : Int) h
def give_b4 (l4 : Nat → Nat → List Int → Int → List Int → Int → Int → List Int → Option (List Int × PUnit)) (t0o : Nat) (t0n : Nat) (t1 : List Int) (t4 : Int) (t7 : List Int) (t8 : Int) (t9 : Int) (h0 : List Int) : Option (List Int × PUnit) :=
  bif decide (t9 < t8) then
  bif inRange t9 (List.length t7) then
    bif inRange t9 t0n then
      Option.bind (wAddF (rdN h0 (t0o + Int.toNat t9), rdI t7 t9, t4)) fun t =>
        bif inRange t9 t0n then l4 t0o t0n t1 t.2 t7 t8 (addI IntKind.i64 t9 (1 : Int)) (wrI h0 (t0o + Int.toNat t9) t.1) else none
    else none
  else none
else
  bif inRange (↑(List.length t1) : Int) t0n then
    bif inRange (↑(List.length t1) : Int) t0n then some (wrI h0 (t0o + Int.toNat (↑(List.length t1) : Int)) (addI IntKind.u64 (rdN h0 (t0o + Int.toNat (↑(List.length t1) : Int))) t4), PUnit.unit)
    else none
  else none
mutual
def give_L4 : Nat → Nat → Nat → (List Int) → Int → (List Int) → Int → Int → (List Int) → Option (List Int × PUnit)
  | 0, _, _, _, _, _, _, _, _ => none
  | k + 1, t0o, t0n, t1, t4, t7, t8, t9, h0 => give_b4 (give_L4 k) t0o t0n t1 t4 t7 t8 t9 h0
end
noncomputable def give_E : Env (List Int × dens []) := envM S.tab [(117, mkF [.int .u64, .int .u64, .int .u64] [.int .u64, .int .u64] wAddF)] Go.Proofs.Tryz.f124 [] [] 22 .u64
theorem give_s0 (r : Rec (List Int × dens [])) (o : Nat) (n : Nat) (h : List Int) (a : List Int) : evT give_E give_h r 3000 false [.code (bodyOf Go.Proofs.Tryz.f124)] (T0 0 [.ref 0 1 o n none, .ints .u64 a]) [.I 1000022 .u64 h] = give_b0 (fun t0o t0n t1 t4 t7 t8 t9 h0 => r (todoOf 4 (bodyOf Go.Proofs.Tryz.f124)) [((0 : Nat), AV.ref (nat_lit 0) (nat_lit 1) t0o t0n none), ((1 : Nat), AV.ints IntKind.u64 t1), ((4 : Nat), AV.int IntKind.u64 t4), ((7 : Nat), AV.ints IntKind.u64 t7),
  ((8 : Nat), AV.int IntKind.i64 t8), ((9 : Nat), AV.int IntKind.i64 t9)] [Blk.I 1000022 IntKind.u64 h0]) o n h a := by kernel_rfl
theorem give_s4 (r : Rec (List Int × dens [])) (t0o : Nat) (t0n : Nat) (t1 : List Int) (t4 : Int) (t7 : List Int) (t8 : Int) (t9 : Int) (h0 : List Int) : evT give_E give_h r 3000 true (todoOf 4 (bodyOf Go.Proofs.Tryz.f124)) [((0 : Nat), AV.ref (nat_lit 0) (nat_lit 1) t0o t0n none), ((1 : Nat), AV.ints IntKind.u64 t1), ((4 : Nat), AV.int IntKind.u64 t4), ((7 : Nat), AV.ints IntKind.u64 t7),
  ((8 : Nat), AV.int IntKind.i64 t8), ((9 : Nat), AV.int IntKind.i64 t9)] [Blk.I 1000022 IntKind.u64 h0] = give_b4 (fun t0o t0n t1 t4 t7 t8 t9 h0 => r (todoOf 4 (bodyOf Go.Proofs.Tryz.f124)) [((0 : Nat), AV.ref (nat_lit 0) (nat_lit 1) t0o t0n none), ((1 : Nat), AV.ints IntKind.u64 t1), ((4 : Nat), AV.int IntKind.u64 t4), ((7 : Nat), AV.ints IntKind.u64 t7),
  ((8 : Nat), AV.int IntKind.i64 t8), ((9 : Nat), AV.int IntKind.i64 t9)] [Blk.I 1000022 IntKind.u64 h0]) t0o t0n t1 t4 t7 t8 t9 h0 := by kernel_rfl
theorem give_k : ∀ k, (∀ (t0o : Nat) (t0n : Nat) (t1 : List Int) (t4 : Int) (t7 : List Int) (t8 : Int) (t9 : Int) (h0 : List Int), evK give_E give_h 3000 k (todoOf 4 (bodyOf Go.Proofs.Tryz.f124)) [((0 : Nat), AV.ref (nat_lit 0) (nat_lit 1) t0o t0n none), ((1 : Nat), AV.ints IntKind.u64 t1), ((4 : Nat), AV.int IntKind.u64 t4), ((7 : Nat), AV.ints IntKind.u64 t7),
  ((8 : Nat), AV.int IntKind.i64 t8), ((9 : Nat), AV.int IntKind.i64 t9)] [Blk.I 1000022 IntKind.u64 h0] = give_L4 k t0o t0n t1 t4 t7 t8 t9 h0)
  | 0 => by
    refine ?_ <;> intros <;> rfl
  | k + 1 => by
    have ih := give_k k
    refine ?_ <;> intros
    · exact ((give_s4 _ _ _ _ _ _ _ _ _).trans (by simp only [ih] <;> rfl))
theorem give_ev (k : Nat) (o : Nat) (n : Nat) (h : List Int) (a : List Int) : evM give_E give_h 3000 k [.code (bodyOf Go.Proofs.Tryz.f124)] (T0 0 [.ref 0 1 o n none, .ints .u64 a]) [.I 1000022 .u64 h] = give_b0 (give_L4 k) o n h a := by
  refine (give_s0 _ o n h a).trans ?_
  simp only [give_k k] <;> rfl
def long_h : Nat → Option Head := hintOf [(17, ⟨[(11, .same), (12, .same), (13, .same), (14, .same), (15, .same), (16, .same)], 3⟩), (29, ⟨[(6, .same), (7, .same), (11, .same), (12, .same), (13, .same), (14, .same), (15, .same), (16, .same)], 3⟩), (39, ⟨[(6, .same), (11, .same), (12, .same), (13, .same), (14, .same), (15, .same), (16, .same)], 3⟩)]
def long_b0 (l17 : Int → Int → Int → List Int → List Int → List Int → Option (List Int × List Int)) (l29 : Int → Int → Int → Int → Int → List Int → List Int → List Int → Option (List Int × List Int)) (l39 : Int → Int → Int → Int → List Int → List Int → List Int → Option (List Int × List Int)) (a : List Int) (b : List Int) : Option (List Int × List Int) :=
  bif inRange (subI IntKind.i64 (↑(List.length b) : Int) (1 : Int)) (List.length b) then
  Option.bind (wLenF (rdI b (subI IntKind.i64 (↑(List.length b) : Int) (1 : Int)))) fun t =>
    Option.bind (qshlF (b, subI IntKind.i64 (64 : Int) t, (↑(List.length b) : Int))) fun t_1 =>
      Option.bind (qshlF (a, subI IntKind.i64 (64 : Int) t, addI IntKind.i64 (↑(List.length a) : Int) (1 : Int))) fun t_2 =>
        bif
            bif decide ((0 : Int) ≤ addI IntKind.i64 (subI IntKind.i64 (↑(List.length a) : Int) (↑(List.length b) : Int)) (1 : Int)) then
              decide (addI IntKind.i64 (subI IntKind.i64 (↑(List.length a) : Int) (↑(List.length b) : Int)) (1 : Int) * (8 : Int) ≤ (281474976710656 : Int))
            else false then
          l17 (↑(List.length b) : Int) (subI IntKind.i64 (64 : Int) t) (subI IntKind.i64 (↑(List.length a) : Int) (↑(List.length b) : Int)) t_1 t_2
            (List.replicate (Int.toNat (addI IntKind.i64 (subI IntKind.i64 (↑(List.length a) : Int) (↑(List.length b) : Int)) (1 : Int))) (0 : Int))
        else none
else none
def long_b17 (l17 : Int → Int → Int → List Int → List Int → List Int → Option (List Int × List Int)) (l29 : Int → Int → Int → Int → Int → List Int → List Int → List Int → Option (List Int × List Int)) (l39 : Int → Int → Int → Int → List Int → List Int → List Int → Option (List Int × List Int)) (t11 : Int) (t12 : Int) (t15 : Int) (h0 : List Int) (h1 : List Int) (h2 : List Int) : Option (List Int × List Int) :=
  bif decide (t15 < (0 : Int)) then
  Option.bind (nNormF h2) fun t =>
    bif bif decide ((0 : Int) ≤ t11) then decide (t11 ≤ (↑(List.length h1) : Int)) else false then Option.bind (qshrF (List.take (Int.toNat (t11 - (0 : Int))) h1, t12)) fun t_1 => some (t, t_1)
    else none
else
  bif inRange (addI IntKind.i64 t15 t11) (List.length h1) then
    bif inRange (subI IntKind.i64 t11 (1 : Int)) (List.length h0) then
      bif decide (rdN h1 (Int.toNat (addI IntKind.i64 t15 t11)) = rdN h0 (Int.toNat (subI IntKind.i64 t11 (1 : Int)))) then
        bif inRange (subI IntKind.i64 (addI IntKind.i64 t15 t11) (1 : Int)) (List.length h1) then
          bif inRange (subI IntKind.i64 t11 (1 : Int)) (List.length h0) then
            Option.bind (wAddF (rdN h1 (Int.toNat (subI IntKind.i64 (addI IntKind.i64 t15 t11) (1 : Int))), rdN h0 (Int.toNat (subI IntKind.i64 t11 (1 : Int))), (0 : Int))) fun t =>
              bif decide (t.2 = (1 : Int)) then l39 (18446744073709551615 : Int) t11 t12 t15 h0 h1 h2 else l29 (18446744073709551615 : Int) t.1 t11 t12 t15 h0 h1 h2
          else none
        else none
      else
        bif inRange (addI IntKind.i64 t15 t11) (List.length h1) then
          bif inRange (subI IntKind.i64 (addI IntKind.i64 t15 t11) (1 : Int)) (List.length h1) then
            bif inRange (subI IntKind.i64 t11 (1 : Int)) (List.length h0) then
              Option.bind
                (wDivF (rdN h1 (Int.toNat (addI IntKind.i64 t15 t11)), rdN h1 (Int.toNat (subI IntKind.i64 (addI IntKind.i64 t15 t11) (1 : Int))), rdN h0 (Int.toNat (subI IntKind.i64 t11 (1 : Int)))))
                fun t => l29 t.1 (Prod.snd t).1 t11 t12 t15 h0 h1 h2
            else none
          else none
        else none
    else none
  else none
def long_b29 (l17 : Int → Int → Int → List Int → List Int → List Int → Option (List Int × List Int)) (l29 : Int → Int → Int → Int → Int → List Int → List Int → List Int → Option (List Int × List Int)) (l39 : Int → Int → Int → Int → List Int → List Int → List Int → Option (List Int × List Int)) (t6 : Int) (t7 : Int) (t11 : Int) (t12 : Int) (t15 : Int) (h0 : List Int) (h1 : List Int) (h2 : List Int) : Option (List Int × List Int) :=
  bif inRange (subI IntKind.i64 t11 (2 : Int)) (List.length h0) then
  Option.bind (wMulF (t6, rdN h0 (Int.toNat (subI IntKind.i64 t11 (2 : Int))))) fun t =>
    bif inRange (subI IntKind.i64 (addI IntKind.i64 t15 t11) (2 : Int)) (List.length h1) then
      Option.bind (wCmpF (t.1, t.2, t7, rdN h1 (Int.toNat (subI IntKind.i64 (addI IntKind.i64 t15 t11) (2 : Int))))) fun t =>
        bif decide (t ≤ (0 : Int)) then l39 t6 t11 t12 t15 h0 h1 h2
        else
          bif inRange (subI IntKind.i64 t11 (1 : Int)) (List.length h0) then
            Option.bind (wAddF (t7, rdN h0 (Int.toNat (subI IntKind.i64 t11 (1 : Int))), (0 : Int))) fun t =>
              bif decide (t.2 = (0 : Int)) then l29 (subI IntKind.u64 t6 (1 : Int)) t.1 t11 t12 t15 h0 h1 h2 else l39 (subI IntKind.u64 t6 (1 : Int)) t11 t12 t15 h0 h1 h2
          else none
    else none
else none
def long_b39 (l17 : Int → Int → Int → List Int → List Int → List Int → Option (List Int × List Int)) (l29 : Int → Int → Int → Int → Int → List Int → List Int → List Int → Option (List Int × List Int)) (l39 : Int → Int → Int → Int → List Int → List Int → List Int → Option (List Int × List Int)) (t6 : Int) (t11 : Int) (t12 : Int) (t15 : Int) (h0 : List Int) (h1 : List Int) (h2 : List Int) : Option (List Int × List Int) :=
  bif
    bif bif decide ((0 : Int) ≤ t15) then decide (t15 ≤ addI IntKind.i64 (addI IntKind.i64 t15 t11) (1 : Int)) else false then
      decide (addI IntKind.i64 (addI IntKind.i64 t15 t11) (1 : Int) ≤ (↑(List.length h1) : Int))
    else false then
  bif decide (Int.toNat t15 + Int.toNat (addI IntKind.i64 (addI IntKind.i64 t15 t11) (1 : Int) - t15) ≤ List.length h1) then
    Option.bind (takeF (List.take (Int.toNat (addI IntKind.i64 (addI IntKind.i64 t15 t11) (1 : Int) - t15)) (List.drop (Int.toNat t15) h1), h0, t6)) fun t =>
      bif t.2 then
        bif
            bif bif decide ((0 : Int) ≤ t15) then decide (t15 ≤ addI IntKind.i64 (addI IntKind.i64 t15 t11) (1 : Int)) else false then
              decide (addI IntKind.i64 (addI IntKind.i64 t15 t11) (1 : Int) ≤ (↑(List.length (splice h1 (Int.toNat t15) t.1)) : Int))
            else false then
          bif decide (Int.toNat t15 + Int.toNat (addI IntKind.i64 (addI IntKind.i64 t15 t11) (1 : Int) - t15) ≤ List.length (splice h1 (Int.toNat t15) t.1)) then
            Option.bind (giveF (List.take (Int.toNat (addI IntKind.i64 (addI IntKind.i64 t15 t11) (1 : Int) - t15)) (List.drop (Int.toNat t15) (splice h1 (Int.toNat t15) t.1)), h0)) fun t_1 =>
              bif inRange t15 (List.length h2) then
                l17 t11 t12 (subI IntKind.i64 t15 (1 : Int)) h0 (splice (splice h1 (Int.toNat t15) t.1) (Int.toNat t15) t_1.1) (wrI h2 (Int.toNat t15) (subI IntKind.u64 t6 (1 : Int)))
              else none
          else none
        else none
      else bif inRange t15 (List.length h2) then l17 t11 t12 (subI IntKind.i64 t15 (1 : Int)) h0 (splice h1 (Int.toNat t15) t.1) (wrI h2 (Int.toNat t15) t6) else none
  else none
else none
mutual
def long_L17 : Nat → Int → Int → Int → (List Int) → (List Int) → (List Int) → Option (List Int × List Int)
  | 0, _, _, _, _, _, _ => none
  | k + 1, t11, t12, t15, h0, h1, h2 => long_b17 (long_L17 k) (long_L29 k) (long_L39 k) t11 t12 t15 h0 h1 h2
def long_L29 : Nat → Int → Int → Int → Int → Int → (List Int) → (List Int) → (List Int) → Option (List Int × List Int)
  | 0, _, _, _, _, _, _, _, _ => none
  | k + 1, t6, t7, t11, t12, t15, h0, h1, h2 => long_b29 (long_L17 k) (long_L29 k) (long_L39 k) t6 t7 t11 t12 t15 h0 h1 h2
def long_L39 : Nat → Int → Int → Int → Int → (List Int) → (List Int) → (List Int) → Option (List Int × List Int)
  | 0, _, _, _, _, _, _, _ => none
  | k + 1, t6, t11, t12, t15, h0, h1, h2 => long_b39 (long_L17 k) (long_L29 k) (long_L39 k) t6 t11 t12 t15 h0 h1 h2
end
noncomputable def long_E : Env (dens [.sl (.int .u64), .sl (.int .u64)]) := envOf S.tab [(113, mkF [.int .u64] [.int .i64] wLenF), (122, mkN [.sl (.int .u64), .int .i64, .int .i64] 22 .u64 qshlF), (117, mkF [.int .u64, .int .u64, .int .u64] [.int .u64, .int .u64] wAddF), (121, mkF [.int .u64, .int .u64, .int .u64] [.int .u64, .int .u64, .int .i64] wDivF), (116, mkF [.int .u64, .int .u64] [.int .u64, .int .u64] wMulF), (110, mkF [.int .u64, .int .u64, .int .u64, .int .u64] [.int .i64] wCmpF), (123, mkM [.sl (.int .u64), .int .u64] [.bool] 22 .u64 takeF), (124, mkM [.sl (.int .u64)] [] 22 .u64 giveF), (98, mkZ [.sl (.int .u64)] .u64 nNormF), (125, mkZ [.sl (.int .u64), .int .i64] .u64 qshrF)] Go.Proofs.Tryz.f120 [4, 5] [.sl (.int .u64), .sl (.int .u64)]
theorem long_s0 (r : Rec (dens [.sl (.int .u64), .sl (.int .u64)])) (a : List Int) (b : List Int) : evT long_E long_h r 3000 false [.code (bodyOf Go.Proofs.Tryz.f120)] (T0 0 [.ints .u64 a, .ints .u64 b]) [] = long_b0 (fun t11 t12 t15 h0 h1 h2 => r (todoOf 17 (bodyOf Go.Proofs.Tryz.f120)) [((11 : Nat), AV.int IntKind.i64 t11), ((12 : Nat), AV.int IntKind.i64 t12), ((13 : Nat), AV.vec (nat_lit 0) (nat_lit 1)), ((14 : Nat), AV.vec (nat_lit 1) (nat_lit 1)),
  ((15 : Nat), AV.int IntKind.i64 t15), ((16 : Nat), AV.vec (Nat.succ (nat_lit 1)) (nat_lit 1))] [Blk.I 22 IntKind.u64 h0, Blk.I 22 IntKind.u64 h1, Blk.I 22 IntKind.u64 h2]) (fun t6 t7 t11 t12 t15 h0 h1 h2 => r (todoOf 29 (bodyOf Go.Proofs.Tryz.f120)) [((6 : Nat), AV.int IntKind.u64 t6), ((7 : Nat), AV.int IntKind.u64 t7), ((11 : Nat), AV.int IntKind.i64 t11), ((12 : Nat), AV.int IntKind.i64 t12), ((13 : Nat), AV.vec (nat_lit 0) (nat_lit 1)),
  ((14 : Nat), AV.vec (nat_lit 1) (nat_lit 1)), ((15 : Nat), AV.int IntKind.i64 t15), ((16 : Nat), AV.vec (Nat.succ (nat_lit 1)) (nat_lit 1))] [Blk.I 22 IntKind.u64 h0, Blk.I 22 IntKind.u64 h1, Blk.I 22 IntKind.u64 h2]) (fun t6 t11 t12 t15 h0 h1 h2 => r (todoOf 39 (bodyOf Go.Proofs.Tryz.f120)) [((6 : Nat), AV.int IntKind.u64 t6), ((11 : Nat), AV.int IntKind.i64 t11), ((12 : Nat), AV.int IntKind.i64 t12), ((13 : Nat), AV.vec (nat_lit 0) (nat_lit 1)),
  ((14 : Nat), AV.vec (nat_lit 1) (nat_lit 1)), ((15 : Nat), AV.int IntKind.i64 t15), ((16 : Nat), AV.vec (Nat.succ (nat_lit 1)) (nat_lit 1))] [Blk.I 22 IntKind.u64 h0, Blk.I 22 IntKind.u64 h1, Blk.I 22 IntKind.u64 h2]) a b := by kernel_rfl
theorem long_s17 (r : Rec (dens [.sl (.int .u64), .sl (.int .u64)])) (t11 : Int) (t12 : Int) (t15 : Int) (h0 : List Int) (h1 : List Int) (h2 : List Int) : evT long_E long_h r 3000 true (todoOf 17 (bodyOf Go.Proofs.Tryz.f120)) [((11 : Nat), AV.int IntKind.i64 t11), ((12 : Nat), AV.int IntKind.i64 t12), ((13 : Nat), AV.vec (nat_lit 0) (nat_lit 1)), ((14 : Nat), AV.vec (nat_lit 1) (nat_lit 1)),
  ((15 : Nat), AV.int IntKind.i64 t15), ((16 : Nat), AV.vec (Nat.succ (nat_lit 1)) (nat_lit 1))] [Blk.I 22 IntKind.u64 h0, Blk.I 22 IntKind.u64 h1, Blk.I 22 IntKind.u64 h2] = long_b17 (fun t11 t12 t15 h0 h1 h2 => r (todoOf 17 (bodyOf Go.Proofs.Tryz.f120)) [((11 : Nat), AV.int IntKind.i64 t11), ((12 : Nat), AV.int IntKind.i64 t12), ((13 : Nat), AV.vec (nat_lit 0) (nat_lit 1)), ((14 : Nat), AV.vec (nat_lit 1) (nat_lit 1)),
  ((15 : Nat), AV.int IntKind.i64 t15), ((16 : Nat), AV.vec (Nat.succ (nat_lit 1)) (nat_lit 1))] [Blk.I 22 IntKind.u64 h0, Blk.I 22 IntKind.u64 h1, Blk.I 22 IntKind.u64 h2]) (fun t6 t7 t11 t12 t15 h0 h1 h2 => r (todoOf 29 (bodyOf Go.Proofs.Tryz.f120)) [((6 : Nat), AV.int IntKind.u64 t6), ((7 : Nat), AV.int IntKind.u64 t7), ((11 : Nat), AV.int IntKind.i64 t11), ((12 : Nat), AV.int IntKind.i64 t12), ((13 : Nat), AV.vec (nat_lit 0) (nat_lit 1)),
  ((14 : Nat), AV.vec (nat_lit 1) (nat_lit 1)), ((15 : Nat), AV.int IntKind.i64 t15), ((16 : Nat), AV.vec (Nat.succ (nat_lit 1)) (nat_lit 1))] [Blk.I 22 IntKind.u64 h0, Blk.I 22 IntKind.u64 h1, Blk.I 22 IntKind.u64 h2]) (fun t6 t11 t12 t15 h0 h1 h2 => r (todoOf 39 (bodyOf Go.Proofs.Tryz.f120)) [((6 : Nat), AV.int IntKind.u64 t6), ((11 : Nat), AV.int IntKind.i64 t11), ((12 : Nat), AV.int IntKind.i64 t12), ((13 : Nat), AV.vec (nat_lit 0) (nat_lit 1)),
  ((14 : Nat), AV.vec (nat_lit 1) (nat_lit 1)), ((15 : Nat), AV.int IntKind.i64 t15), ((16 : Nat), AV.vec (Nat.succ (nat_lit 1)) (nat_lit 1))] [Blk.I 22 IntKind.u64 h0, Blk.I 22 IntKind.u64 h1, Blk.I 22 IntKind.u64 h2]) t11 t12 t15 h0 h1 h2 := by kernel_rfl
theorem long_s29 (r : Rec (dens [.sl (.int .u64), .sl (.int .u64)])) (t6 : Int) (t7 : Int) (t11 : Int) (t12 : Int) (t15 : Int) (h0 : List Int) (h1 : List Int) (h2 : List Int) : evT long_E long_h r 3000 true (todoOf 29 (bodyOf Go.Proofs.Tryz.f120)) [((6 : Nat), AV.int IntKind.u64 t6), ((7 : Nat), AV.int IntKind.u64 t7), ((11 : Nat), AV.int IntKind.i64 t11), ((12 : Nat), AV.int IntKind.i64 t12), ((13 : Nat), AV.vec (nat_lit 0) (nat_lit 1)),
  ((14 : Nat), AV.vec (nat_lit 1) (nat_lit 1)), ((15 : Nat), AV.int IntKind.i64 t15), ((16 : Nat), AV.vec (Nat.succ (nat_lit 1)) (nat_lit 1))] [Blk.I 22 IntKind.u64 h0, Blk.I 22 IntKind.u64 h1, Blk.I 22 IntKind.u64 h2] = long_b29 (fun t11 t12 t15 h0 h1 h2 => r (todoOf 17 (bodyOf Go.Proofs.Tryz.f120)) [((11 : Nat), AV.int IntKind.i64 t11), ((12 : Nat), AV.int IntKind.i64 t12), ((13 : Nat), AV.vec (nat_lit 0) (nat_lit 1)), ((14 : Nat), AV.vec (nat_lit 1) (nat_lit 1)),
  ((15 : Nat), AV.int IntKind.i64 t15), ((16 : Nat), AV.vec (Nat.succ (nat_lit 1)) (nat_lit 1))] [Blk.I 22 IntKind.u64 h0, Blk.I 22 IntKind.u64 h1, Blk.I 22 IntKind.u64 h2]) (fun t6 t7 t11 t12 t15 h0 h1 h2 => r (todoOf 29 (bodyOf Go.Proofs.Tryz.f120)) [((6 : Nat), AV.int IntKind.u64 t6), ((7 : Nat), AV.int IntKind.u64 t7), ((11 : Nat), AV.int IntKind.i64 t11), ((12 : Nat), AV.int IntKind.i64 t12), ((13 : Nat), AV.vec (nat_lit 0) (nat_lit 1)),
  ((14 : Nat), AV.vec (nat_lit 1) (nat_lit 1)), ((15 : Nat), AV.int IntKind.i64 t15), ((16 : Nat), AV.vec (Nat.succ (nat_lit 1)) (nat_lit 1))] [Blk.I 22 IntKind.u64 h0, Blk.I 22 IntKind.u64 h1, Blk.I 22 IntKind.u64 h2]) (fun t6 t11 t12 t15 h0 h1 h2 => r (todoOf 39 (bodyOf Go.Proofs.Tryz.f120)) [((6 : Nat), AV.int IntKind.u64 t6), ((11 : Nat), AV.int IntKind.i64 t11), ((12 : Nat), AV.int IntKind.i64 t12), ((13 : Nat), AV.vec (nat_lit 0) (nat_lit 1)),
  ((14 : Nat), AV.vec (nat_lit 1) (nat_lit 1)), ((15 : Nat), AV.int IntKind.i64 t15), ((16 : Nat), AV.vec (Nat.succ (nat_lit 1)) (nat_lit 1))] [Blk.I 22 IntKind.u64 h0, Blk.I 22 IntKind.u64 h1, Blk.I 22 IntKind.u64 h2]) t6 t7 t11 t12 t15 h0 h1 h2 := by kernel_rfl
theorem long_s39 (r : Rec (dens [.sl (.int .u64), .sl (.int .u64)])) (t6 : Int) (t11 : Int) (t12 : Int) (t15 : Int) (h0 : List Int) (h1 : List Int) (h2 : List Int) : evT long_E long_h r 3000 true (todoOf 39 (bodyOf Go.Proofs.Tryz.f120)) [((6 : Nat), AV.int IntKind.u64 t6), ((11 : Nat), AV.int IntKind.i64 t11), ((12 : Nat), AV.int IntKind.i64 t12), ((13 : Nat), AV.vec (nat_lit 0) (nat_lit 1)),
  ((14 : Nat), AV.vec (nat_lit 1) (nat_lit 1)), ((15 : Nat), AV.int IntKind.i64 t15), ((16 : Nat), AV.vec (Nat.succ (nat_lit 1)) (nat_lit 1))] [Blk.I 22 IntKind.u64 h0, Blk.I 22 IntKind.u64 h1, Blk.I 22 IntKind.u64 h2] = long_b39 (fun t11 t12 t15 h0 h1 h2 => r (todoOf 17 (bodyOf Go.Proofs.Tryz.f120)) [((11 : Nat), AV.int IntKind.i64 t11), ((12 : Nat), AV.int IntKind.i64 t12), ((13 : Nat), AV.vec (nat_lit 0) (nat_lit 1)), ((14 : Nat), AV.vec (nat_lit 1) (nat_lit 1)),
  ((15 : Nat), AV.int IntKind.i64 t15), ((16 : Nat), AV.vec (Nat.succ (nat_lit 1)) (nat_lit 1))] [Blk.I 22 IntKind.u64 h0, Blk.I 22 IntKind.u64 h1, Blk.I 22 IntKind.u64 h2]) (fun t6 t7 t11 t12 t15 h0 h1 h2 => r (todoOf 29 (bodyOf Go.Proofs.Tryz.f120)) [((6 : Nat), AV.int IntKind.u64 t6), ((7 : Nat), AV.int IntKind.u64 t7), ((11 : Nat), AV.int IntKind.i64 t11), ((12 : Nat), AV.int IntKind.i64 t12), ((13 : Nat), AV.vec (nat_lit 0) (nat_lit 1)),
  ((14 : Nat), AV.vec (nat_lit 1) (nat_lit 1)), ((15 : Nat), AV.int IntKind.i64 t15), ((16 : Nat), AV.vec (Nat.succ (nat_lit 1)) (nat_lit 1))] [Blk.I 22 IntKind.u64 h0, Blk.I 22 IntKind.u64 h1, Blk.I 22 IntKind.u64 h2]) (fun t6 t11 t12 t15 h0 h1 h2 => r (todoOf 39 (bodyOf Go.Proofs.Tryz.f120)) [((6 : Nat), AV.int IntKind.u64 t6), ((11 : Nat), AV.int IntKind.i64 t11), ((12 : Nat), AV.int IntKind.i64 t12), ((13 : Nat), AV.vec (nat_lit 0) (nat_lit 1)),
  ((14 : Nat), AV.vec (nat_lit 1) (nat_lit 1)), ((15 : Nat), AV.int IntKind.i64 t15), ((16 : Nat), AV.vec (Nat.succ (nat_lit 1)) (nat_lit 1))] [Blk.I 22 IntKind.u64 h0, Blk.I 22 IntKind.u64 h1, Blk.I 22 IntKind.u64 h2]) t6 t11 t12 t15 h0 h1 h2 := by kernel_rfl
theorem long_k : ∀ k, (∀ (t11 : Int) (t12 : Int) (t15 : Int) (h0 : List Int) (h1 : List Int) (h2 : List Int), evK long_E long_h 3000 k (todoOf 17 (bodyOf Go.Proofs.Tryz.f120)) [((11 : Nat), AV.int IntKind.i64 t11), ((12 : Nat), AV.int IntKind.i64 t12), ((13 : Nat), AV.vec (nat_lit 0) (nat_lit 1)), ((14 : Nat), AV.vec (nat_lit 1) (nat_lit 1)),
  ((15 : Nat), AV.int IntKind.i64 t15), ((16 : Nat), AV.vec (Nat.succ (nat_lit 1)) (nat_lit 1))] [Blk.I 22 IntKind.u64 h0, Blk.I 22 IntKind.u64 h1, Blk.I 22 IntKind.u64 h2] = long_L17 k t11 t12 t15 h0 h1 h2) ∧ (∀ (t6 : Int) (t7 : Int) (t11 : Int) (t12 : Int) (t15 : Int) (h0 : List Int) (h1 : List Int) (h2 : List Int), evK long_E long_h 3000 k (todoOf 29 (bodyOf Go.Proofs.Tryz.f120)) [((6 : Nat), AV.int IntKind.u64 t6), ((7 : Nat), AV.int IntKind.u64 t7), ((11 : Nat), AV.int IntKind.i64 t11), ((12 : Nat), AV.int IntKind.i64 t12), ((13 : Nat), AV.vec (nat_lit 0) (nat_lit 1)),
  ((14 : Nat), AV.vec (nat_lit 1) (nat_lit 1)), ((15 : Nat), AV.int IntKind.i64 t15), ((16 : Nat), AV.vec (Nat.succ (nat_lit 1)) (nat_lit 1))] [Blk.I 22 IntKind.u64 h0, Blk.I 22 IntKind.u64 h1, Blk.I 22 IntKind.u64 h2] = long_L29 k t6 t7 t11 t12 t15 h0 h1 h2) ∧ (∀ (t6 : Int) (t11 : Int) (t12 : Int) (t15 : Int) (h0 : List Int) (h1 : List Int) (h2 : List Int), evK long_E long_h 3000 k (todoOf 39 (bodyOf Go.Proofs.Tryz.f120)) [((6 : Nat), AV.int IntKind.u64 t6), ((11 : Nat), AV.int IntKind.i64 t11), ((12 : Nat), AV.int IntKind.i64 t12), ((13 : Nat), AV.vec (nat_lit 0) (nat_lit 1)),
  ((14 : Nat), AV.vec (nat_lit 1) (nat_lit 1)), ((15 : Nat), AV.int IntKind.i64 t15), ((16 : Nat), AV.vec (Nat.succ (nat_lit 1)) (nat_lit 1))] [Blk.I 22 IntKind.u64 h0, Blk.I 22 IntKind.u64 h1, Blk.I 22 IntKind.u64 h2] = long_L39 k t6 t11 t12 t15 h0 h1 h2)
  | 0 => by
    refine ⟨?_, ?_, ?_⟩ <;> intros <;> rfl
  | k + 1 => by
    have ih := long_k k
    refine ⟨?_, ?_, ?_⟩ <;> intros
    · exact ((long_s17 _ _ _ _ _ _ _).trans (by simp only [ih] <;> rfl))
    · exact ((long_s29 _ _ _ _ _ _ _ _ _).trans (by simp only [ih] <;> rfl))
    · exact ((long_s39 _ _ _ _ _ _ _ _).trans (by simp only [ih] <;> rfl))
theorem long_ev (k : Nat) (a : List Int) (b : List Int) : evM long_E long_h 3000 k [.code (bodyOf Go.Proofs.Tryz.f120)] (T0 0 [.ints .u64 a, .ints .u64 b]) [] = long_b0 (long_L17 k) (long_L29 k) (long_L39 k) a b := by
  refine (long_s0 _ a b).trans ?_
  simp only [long_k k] <;> rfl
def DivMod_h : Nat → Option Head := hintOf []
def DivMod_b0  (a : List Int) (b : List Int) : Option (List Int × List Int × Int) :=
  Option.bind (nNormF a) fun t =>
  Option.bind (nNormF b) fun t_1 =>
    bif decide ((↑(List.length t_1) : Int) = (0 : Int)) then some ([], [], (30 : Int))
    else
      Option.bind (nCmpF (t, t_1)) fun t_2 =>
        bif decide (t_2 < (0 : Int)) then some ([], t, (0 : Int))
        else
          bif decide ((↑(List.length t_1) : Int) = (1 : Int)) then
            bif inRange (0 : Int) (List.length t_1) then Option.bind (qSmallF (t, rdI t_1 (0 : Int))) fun t => Option.bind (nFromF (Prod.snd t).1) fun t_3 => some (t.1, t_3, (0 : Int)) else none
          else Option.bind (longF (t, t_1)) fun t => some (t.1, t.2, (0 : Int))
noncomputable def DivMod_E : Env (dens [.sl (.int .u64), .sl (.int .u64), .int .i64]) := envOf S.tab [(98, mkF [.sl (.int .u64)] [.sl (.int .u64)] nNormF), (91, mkF [.sl (.int .u64), .sl (.int .u64)] [.int .i64] nCmpF), (119, mkF [.sl (.int .u64), .int .u64] [.sl (.int .u64), .int .u64, .int .i64] qSmallF), (76, mkF [.int .u64] [.sl (.int .u64)] nFromF), (120, mkF [.sl (.int .u64), .sl (.int .u64)] [.sl (.int .u64), .sl (.int .u64)] longF)] Go.Proofs.Tryz.f115 [4, 5, 6] [.sl (.int .u64), .sl (.int .u64), .int .i64]
theorem DivMod_s0 (r : Rec (dens [.sl (.int .u64), .sl (.int .u64), .int .i64])) (a : List Int) (b : List Int) : evT DivMod_E DivMod_h r 3000 false [.code (bodyOf Go.Proofs.Tryz.f115)] (T0 0 [.ints .u64 a, .ints .u64 b]) [] = DivMod_b0  a b := by kernel_rfl
theorem DivMod_ev (k : Nat) (a : List Int) (b : List Int) : evM DivMod_E DivMod_h 3000 k [.code (bodyOf Go.Proofs.Tryz.f115)] (T0 0 [.ints .u64 a, .ints .u64 b]) [] = DivMod_b0  a b := by
  exact DivMod_s0 _ a b
end
end Go.RX.S
