/- What functions compute, printed. -/
import Derived.Test.YtciapojlnhiggaaGreatZSe
import Derived.Test.YtciapojlnhiggaaGreatZTb
set_option linter.unusedVariables false
set_option linter.unusedSimpArgs false
namespace Go.RX.S
open Go Go.RX
noncomputable section
def r3Norm_h : Nat → Option Head := hintOf [(4, ⟨[(0, .same), (3, .same)], 0⟩), (12, ⟨[(0, .same), (3, .same), (4, .vec 22), (5, .same)], 1⟩)]
def r3Norm_b0 (l4 : List Int → Int → Option (List Int)) (l12 : List Int → Int → Int → List Int → Option (List Int)) (a : List Int) : Option (List Int) :=
  l4 a (↑(List.length a) : Int)
def r3Norm_b4 (l4 : List Int → Int → Option (List Int)) (l12 : List Int → Int → Int → List Int → Option (List Int)) (t0 : List Int) (t3 : Int) : Option (List Int) :=
  bif decide (t3 > (0 : Int)) then
  bif inRange (subI IntKind.i64 t3 (1 : Int)) (List.length t0) then
    bif decide (rdI t0 (subI IntKind.i64 t3 (1 : Int)) = (0 : Int)) then l4 t0 (subI IntKind.i64 t3 (1 : Int)) else l12 t0 t3 (0 : Int) []
  else none
else l12 t0 t3 (0 : Int) []
def r3Norm_b12 (l4 : List Int → Int → Option (List Int)) (l12 : List Int → Int → Int → List Int → Option (List Int)) (t0 : List Int) (t3 : Int) (t5 : Int) (h0 : List Int) : Option (List Int) :=
  bif decide (t5 < t3) then
  bif inRange t5 (List.length t0) then
    bif decide ((↑(List.length (h0 ++ [rdI t0 t5])) : Int) * (8 : Int) ≤ (140737488355328 : Int)) then l12 t0 t3 (addI IntKind.i64 t5 (1 : Int)) (h0 ++ [rdI t0 t5]) else none
  else none
else some h0
mutual
def r3Norm_L4 : Nat → (List Int) → Int → Option (List Int)
  | 0, _, _ => none
  | k + 1, t0, t3 => r3Norm_b4 (r3Norm_L4 k) (r3Norm_L12 k) t0 t3
def r3Norm_L12 : Nat → (List Int) → Int → Int → (List Int) → Option (List Int)
  | 0, _, _, _, _ => none
  | k + 1, t0, t3, t5, h0 => r3Norm_b12 (r3Norm_L4 k) (r3Norm_L12 k) t0 t3 t5 h0
end
noncomputable def r3Norm_E : Env (dens [.sl (.int .u64)]) := envOf S.tab [] Go.Proofs.Tryz.f63 [2] [.sl (.int .u64)]
theorem r3Norm_s0 (r : Rec (dens [.sl (.int .u64)])) (a : List Int) : evT r3Norm_E r3Norm_h r 3000 false [.code (bodyOf Go.Proofs.Tryz.f63)] (T0 0 [.ints .u64 a]) [] = r3Norm_b0 (fun t0 t3 => r (todoOf 4 (bodyOf Go.Proofs.Tryz.f63)) [((0 : Nat), AV.ints IntKind.u64 t0), ((3 : Nat), AV.int IntKind.i64 t3)] []) (fun t0 t3 t5 h0 => r (todoOf 12 (bodyOf Go.Proofs.Tryz.f63)) [((0 : Nat), AV.ints IntKind.u64 t0), ((3 : Nat), AV.int IntKind.i64 t3), ((4 : Nat), AV.vec (nat_lit 0) (nat_lit 1)), ((5 : Nat), AV.int IntKind.i64 t5)] [Blk.I 22 IntKind.u64 h0]) a := by kernel_rfl
theorem r3Norm_s4 (r : Rec (dens [.sl (.int .u64)])) (t0 : List Int) (t3 : Int) : evT r3Norm_E r3Norm_h r 3000 true (todoOf 4 (bodyOf Go.Proofs.Tryz.f63)) [((0 : Nat), AV.ints IntKind.u64 t0), ((3 : Nat), AV.int IntKind.i64 t3)] [] = r3Norm_b4 (fun t0 t3 => r (todoOf 4 (bodyOf Go.Proofs.Tryz.f63)) [((0 : Nat), AV.ints IntKind.u64 t0), ((3 : Nat), AV.int IntKind.i64 t3)] []) (fun t0 t3 t5 h0 => r (todoOf 12 (bodyOf Go.Proofs.Tryz.f63)) [((0 : Nat), AV.ints IntKind.u64 t0), ((3 : Nat), AV.int IntKind.i64 t3), ((4 : Nat), AV.vec (nat_lit 0) (nat_lit 1)), ((5 : Nat), AV.int IntKind.i64 t5)] [Blk.I 22 IntKind.u64 h0]) t0 t3 := by kernel_rfl
theorem r3Norm_s12 (r : Rec (dens [.sl (.int .u64)])) (t0 : List Int) (t3 : Int) (t5 : Int) (h0 : List Int) : evT r3Norm_E r3Norm_h r 3000 true (todoOf 12 (bodyOf Go.Proofs.Tryz.f63)) [((0 : Nat), AV.ints IntKind.u64 t0), ((3 : Nat), AV.int IntKind.i64 t3), ((4 : Nat), AV.vec (nat_lit 0) (nat_lit 1)), ((5 : Nat), AV.int IntKind.i64 t5)] [Blk.I 22 IntKind.u64 h0] = r3Norm_b12 (fun t0 t3 => r (todoOf 4 (bodyOf Go.Proofs.Tryz.f63)) [((0 : Nat), AV.ints IntKind.u64 t0), ((3 : Nat), AV.int IntKind.i64 t3)] []) (fun t0 t3 t5 h0 => r (todoOf 12 (bodyOf Go.Proofs.Tryz.f63)) [((0 : Nat), AV.ints IntKind.u64 t0), ((3 : Nat), AV.int IntKind.i64 t3), ((4 : Nat), AV.vec (nat_lit 0) (nat_lit 1)), ((5 : Nat), AV.int IntKind.i64 t5)] [Blk.I 22 IntKind.u64 h0]) t0 t3 t5 h0 := by kernel_rfl
theorem r3Norm_k : ∀ k, (∀ (t0 : List Int) (t3 : Int), evK r3Norm_E r3Norm_h 3000 k (todoOf 4 (bodyOf Go.Proofs.Tryz.f63)) [((0 : Nat), AV.ints IntKind.u64 t0), ((3 : Nat), AV.int IntKind.i64 t3)] [] = r3Norm_L4 k t0 t3) ∧ (∀ (t0 : List Int) (t3 : Int) (t5 : Int) (h0 : List Int), evK r3Norm_E r3Norm_h 3000 k (todoOf 12 (bodyOf Go.Proofs.Tryz.f63)) [((0 : Nat), AV.ints IntKind.u64 t0), ((3 : Nat), AV.int IntKind.i64 t3), ((4 : Nat), AV.vec (nat_lit 0) (nat_lit 1)), ((5 : Nat), AV.int IntKind.i64 t5)] [Blk.I 22 IntKind.u64 h0] = r3Norm_L12 k t0 t3 t5 h0)
  | 0 => by
    refine ⟨?_, ?_⟩ <;> intros <;> rfl
  | k + 1 => by
    have ih := r3Norm_k k
    refine ⟨?_, ?_⟩ <;> intros
    · exact ((r3Norm_s4 _ _ _).trans (by simp only [ih] <;> rfl))
    · exact ((r3Norm_s12 _ _ _ _ _).trans (by simp only [ih] <;> rfl))
theorem r3Norm_ev (k : Nat) (a : List Int) : evM r3Norm_E r3Norm_h 3000 k [.code (bodyOf Go.Proofs.Tryz.f63)] (T0 0 [.ints .u64 a]) [] = r3Norm_b0 (r3Norm_L4 k) (r3Norm_L12 k) a := by
  refine (r3Norm_s0 _ a).trans ?_
  simp only [r3Norm_k k] <;> rfl
def r3Bits_h : Nat → Option Head := hintOf [(4, ⟨[(0, .same), (3, .same)], 0⟩), (14, ⟨[(4, .same), (5, .same)], 0⟩)]
def r3Bits_b0 (l4 : List Int → Int → Option Int) (l14 : Int → Int → Option Int) (a : List Int) : Option (Int) :=
  l4 a (subI IntKind.i64 (↑(List.length a) : Int) (1 : Int))
def r3Bits_b4 (l4 : List Int → Int → Option Int) (l14 : Int → Int → Option Int) (t0 : List Int) (t3 : Int) : Option (Int) :=
  bif decide (t3 ≥ (0 : Int)) then
  bif inRange t3 (List.length t0) then
    bif decide (rdI t0 t3 > (0 : Int)) then bif inRange t3 (List.length t0) then l14 (mulI IntKind.i64 (64 : Int) t3) (rdI t0 t3) else none else l4 t0 (subI IntKind.i64 t3 (1 : Int))
  else none
else some (0 : Int)
def r3Bits_b14 (l4 : List Int → Int → Option Int) (l14 : Int → Int → Option Int) (t4 : Int) (t5 : Int) : Option (Int) :=
  bif decide (t5 > (0 : Int)) then l14 (addI IntKind.i64 t4 (1 : Int)) (shrI IntKind.u64 t5 (1 : Int)) else some t4
mutual
def r3Bits_L4 : Nat → (List Int) → Int → Option (Int)
  | 0, _, _ => none
  | k + 1, t0, t3 => r3Bits_b4 (r3Bits_L4 k) (r3Bits_L14 k) t0 t3
def r3Bits_L14 : Nat → Int → Int → Option (Int)
  | 0, _, _ => none
  | k + 1, t4, t5 => r3Bits_b14 (r3Bits_L4 k) (r3Bits_L14 k) t4 t5
end
noncomputable def r3Bits_E : Env (dens [.int .i64]) := envOf S.tab [] Go.Proofs.Tryz.f59 [2] [.int .i64]
theorem r3Bits_s0 (r : Rec (dens [.int .i64])) (a : List Int) : evT r3Bits_E r3Bits_h r 3000 false [.code (bodyOf Go.Proofs.Tryz.f59)] (T0 0 [.ints .u64 a]) [] = r3Bits_b0 (fun t0 t3 => r (todoOf 4 (bodyOf Go.Proofs.Tryz.f59)) [((0 : Nat), AV.ints IntKind.u64 t0), ((3 : Nat), AV.int IntKind.i64 t3)] []) (fun t4 t5 => r (todoOf 14 (bodyOf Go.Proofs.Tryz.f59)) [((4 : Nat), AV.int IntKind.i64 t4), ((5 : Nat), AV.int IntKind.u64 t5)] []) a := by kernel_rfl
theorem r3Bits_s4 (r : Rec (dens [.int .i64])) (t0 : List Int) (t3 : Int) : evT r3Bits_E r3Bits_h r 3000 true (todoOf 4 (bodyOf Go.Proofs.Tryz.f59)) [((0 : Nat), AV.ints IntKind.u64 t0), ((3 : Nat), AV.int IntKind.i64 t3)] [] = r3Bits_b4 (fun t0 t3 => r (todoOf 4 (bodyOf Go.Proofs.Tryz.f59)) [((0 : Nat), AV.ints IntKind.u64 t0), ((3 : Nat), AV.int IntKind.i64 t3)] []) (fun t4 t5 => r (todoOf 14 (bodyOf Go.Proofs.Tryz.f59)) [((4 : Nat), AV.int IntKind.i64 t4), ((5 : Nat), AV.int IntKind.u64 t5)] []) t0 t3 := by kernel_rfl
theorem r3Bits_s14 (r : Rec (dens [.int .i64])) (t4 : Int) (t5 : Int) : evT r3Bits_E r3Bits_h r 3000 true (todoOf 14 (bodyOf Go.Proofs.Tryz.f59)) [((4 : Nat), AV.int IntKind.i64 t4), ((5 : Nat), AV.int IntKind.u64 t5)] [] = r3Bits_b14 (fun t0 t3 => r (todoOf 4 (bodyOf Go.Proofs.Tryz.f59)) [((0 : Nat), AV.ints IntKind.u64 t0), ((3 : Nat), AV.int IntKind.i64 t3)] []) (fun t4 t5 => r (todoOf 14 (bodyOf Go.Proofs.Tryz.f59)) [((4 : Nat), AV.int IntKind.i64 t4), ((5 : Nat), AV.int IntKind.u64 t5)] []) t4 t5 := by kernel_rfl
theorem r3Bits_k : ∀ k, (∀ (t0 : List Int) (t3 : Int), evK r3Bits_E r3Bits_h 3000 k (todoOf 4 (bodyOf Go.Proofs.Tryz.f59)) [((0 : Nat), AV.ints IntKind.u64 t0), ((3 : Nat), AV.int IntKind.i64 t3)] [] = r3Bits_L4 k t0 t3) ∧ (∀ (t4 : Int) (t5 : Int), evK r3Bits_E r3Bits_h 3000 k (todoOf 14 (bodyOf Go.Proofs.Tryz.f59)) [((4 : Nat), AV.int IntKind.i64 t4), ((5 : Nat), AV.int IntKind.u64 t5)] [] = r3Bits_L14 k t4 t5)
  | 0 => by
    refine ⟨?_, ?_⟩ <;> intros <;> rfl
  | k + 1 => by
    have ih := r3Bits_k k
    refine ⟨?_, ?_⟩ <;> intros
    · exact ((r3Bits_s4 _ _ _).trans (by simp only [ih] <;> rfl))
    · exact ((r3Bits_s14 _ _ _).trans (by simp only [ih] <;> rfl))
theorem r3Bits_ev (k : Nat) (a : List Int) : evM r3Bits_E r3Bits_h 3000 k [.code (bodyOf Go.Proofs.Tryz.f59)] (T0 0 [.ints .u64 a]) [] = r3Bits_b0 (r3Bits_L4 k) (r3Bits_L14 k) a := by
  refine (r3Bits_s0 _ a).trans ?_
  simp only [r3Bits_k k] <;> rfl
def r3Mul_h : Nat → Option Head := hintOf [(6, ⟨[(0, .same), (1, .same), (5, .same), (6, .same)], 1⟩), (16, ⟨[(0, .same), (1, .same), (5, .same), (6, .same), (7, .same), (8, .same), (9, .same)], 1⟩), (34, ⟨[(5, .same), (12, .vec 22), (13, .same)], 2⟩)]
def r3Mul_b0 (l6 : List Int → List Int → Int → List Int → Option (List Int)) (l16 : List Int → List Int → Int → Int → Int → Int → List Int → Option (List Int)) (l34 : Int → List Int → List Int → Option (List Int)) (a : List Int) (b : List Int) : Option (List Int) :=
  bif
    bif decide ((0 : Int) ≤ addI IntKind.i64 (mulI IntKind.i64 (2 : Int) (addI IntKind.i64 (↑(List.length a) : Int) (↑(List.length b) : Int))) (1 : Int)) then
      decide (addI IntKind.i64 (mulI IntKind.i64 (2 : Int) (addI IntKind.i64 (↑(List.length a) : Int) (↑(List.length b) : Int))) (1 : Int) * (8 : Int) ≤ (281474976710656 : Int))
    else false then
  l6 a b (0 : Int) (List.replicate (Int.toNat (addI IntKind.i64 (mulI IntKind.i64 (2 : Int) (addI IntKind.i64 (↑(List.length a) : Int) (↑(List.length b) : Int))) (1 : Int))) (0 : Int))
else none
def r3Mul_b6 (l6 : List Int → List Int → Int → List Int → Option (List Int)) (l16 : List Int → List Int → Int → Int → Int → Int → List Int → Option (List Int)) (l34 : Int → List Int → List Int → Option (List Int)) (t0 : List Int) (t1 : List Int) (t6 : Int) (h0 : List Int) : Option (List Int) :=
  bif decide (t6 < mulI IntKind.i64 (2 : Int) (↑(List.length t0) : Int)) then
  bif inRange (divI IntKind.i64 t6 (2 : Int)) (List.length t0) then
    bif decide ((0 : Int) ≤ mulI IntKind.i64 (32 : Int) (remI t6 (2 : Int))) then
      l16 t0 t1 t6 (andI IntKind.u64 (shrI IntKind.u64 (rdI t0 (divI IntKind.i64 t6 (2 : Int))) (mulI IntKind.i64 (32 : Int) (remI t6 (2 : Int)))) (4294967295 : Int)) (0 : Int) (0 : Int) h0
    else none
  else none
else l34 (0 : Int) h0 []
def r3Mul_b16 (l6 : List Int → List Int → Int → List Int → Option (List Int)) (l16 : List Int → List Int → Int → Int → Int → Int → List Int → Option (List Int)) (l34 : Int → List Int → List Int → Option (List Int)) (t0 : List Int) (t1 : List Int) (t6 : Int) (t7 : Int) (t8 : Int) (t9 : Int) (h0 : List Int) : Option (List Int) :=
  bif decide (t9 < mulI IntKind.i64 (2 : Int) (↑(List.length t1) : Int)) then
  bif inRange (divI IntKind.i64 t9 (2 : Int)) (List.length t1) then
    bif decide ((0 : Int) ≤ mulI IntKind.i64 (32 : Int) (remI t9 (2 : Int))) then
      bif inRange (addI IntKind.i64 t6 t9) (List.length h0) then
        bif inRange (addI IntKind.i64 t6 t9) (List.length h0) then
          l16 t0 t1 t6 t7
            (shrI IntKind.u64
              (addI IntKind.u64
                (addI IntKind.u64
                  (mulI IntKind.u64 t7 (andI IntKind.u64 (shrI IntKind.u64 (rdI t1 (divI IntKind.i64 t9 (2 : Int))) (mulI IntKind.i64 (32 : Int) (remI t9 (2 : Int)))) (4294967295 : Int)))
                  (rdN h0 (Int.toNat (addI IntKind.i64 t6 t9))))
                t8)
              (32 : Int))
            (addI IntKind.i64 t9 (1 : Int))
            (wrI h0 (Int.toNat (addI IntKind.i64 t6 t9))
              (andI IntKind.u64
                (addI IntKind.u64
                  (addI IntKind.u64
                    (mulI IntKind.u64 t7 (andI IntKind.u64 (shrI IntKind.u64 (rdI t1 (divI IntKind.i64 t9 (2 : Int))) (mulI IntKind.i64 (32 : Int) (remI t9 (2 : Int)))) (4294967295 : Int)))
                    (rdN h0 (Int.toNat (addI IntKind.i64 t6 t9))))
                  t8)
                (4294967295 : Int)))
        else none
      else none
    else none
  else none
else
  bif inRange (addI IntKind.i64 t6 (mulI IntKind.i64 (2 : Int) (↑(List.length t1) : Int))) (List.length h0) then
    bif inRange (addI IntKind.i64 t6 (mulI IntKind.i64 (2 : Int) (↑(List.length t1) : Int))) (List.length h0) then
      l6 t0 t1 (addI IntKind.i64 t6 (1 : Int))
        (wrI h0 (Int.toNat (addI IntKind.i64 t6 (mulI IntKind.i64 (2 : Int) (↑(List.length t1) : Int))))
          (addI IntKind.u64 (rdN h0 (Int.toNat (addI IntKind.i64 t6 (mulI IntKind.i64 (2 : Int) (↑(List.length t1) : Int))))) t8))
    else none
  else none
def r3Mul_b34 (l6 : List Int → List Int → Int → List Int → Option (List Int)) (l16 : List Int → List Int → Int → Int → Int → Int → List Int → Option (List Int)) (l34 : Int → List Int → List Int → Option (List Int)) (t13 : Int) (h0 : List Int) (h1 : List Int) : Option (List Int) :=
  bif decide (addI IntKind.i64 t13 (1 : Int) < (↑(List.length h0) : Int)) then
  bif inRange t13 (List.length h0) then
    bif inRange (addI IntKind.i64 t13 (1 : Int)) (List.length h0) then
      bif
          decide
            ((↑(List.length (h1 ++ [orI IntKind.u64 (rdN h0 (Int.toNat t13)) (shlI IntKind.u64 (rdN h0 (Int.toNat (addI IntKind.i64 t13 (1 : Int)))) (32 : Int))])) : Int) * (8 : Int) ≤
              (140737488355328 : Int)) then
        l34 (addI IntKind.i64 t13 (2 : Int)) h0 (h1 ++ [orI IntKind.u64 (rdN h0 (Int.toNat t13)) (shlI IntKind.u64 (rdN h0 (Int.toNat (addI IntKind.i64 t13 (1 : Int)))) (32 : Int))])
      else none
    else none
  else none
else Option.bind (r3NormF h1) fun t => some t
mutual
def r3Mul_L6 : Nat → (List Int) → (List Int) → Int → (List Int) → Option (List Int)
  | 0, _, _, _, _ => none
  | k + 1, t0, t1, t6, h0 => r3Mul_b6 (r3Mul_L6 k) (r3Mul_L16 k) (r3Mul_L34 k) t0 t1 t6 h0
def r3Mul_L16 : Nat → (List Int) → (List Int) → Int → Int → Int → Int → (List Int) → Option (List Int)
  | 0, _, _, _, _, _, _, _ => none
  | k + 1, t0, t1, t6, t7, t8, t9, h0 => r3Mul_b16 (r3Mul_L6 k) (r3Mul_L16 k) (r3Mul_L34 k) t0 t1 t6 t7 t8 t9 h0
def r3Mul_L34 : Nat → Int → (List Int) → (List Int) → Option (List Int)
  | 0, _, _, _ => none
  | k + 1, t13, h0, h1 => r3Mul_b34 (r3Mul_L6 k) (r3Mul_L16 k) (r3Mul_L34 k) t13 h0 h1
end
noncomputable def r3Mul_E : Env (dens [.sl (.int .u64)]) := envOf S.tab [(63, mkF [.sl (.int .u64)] [.sl (.int .u64)] r3NormF)] Go.Proofs.Tryz.f69 [4] [.sl (.int .u64)]
theorem r3Mul_s0 (r : Rec (dens [.sl (.int .u64)])) (a : List Int) (b : List Int) : evT r3Mul_E r3Mul_h r 3000 false [.code (bodyOf Go.Proofs.Tryz.f69)] (T0 0 [.ints .u64 a, .ints .u64 b]) [] = r3Mul_b0 (fun t0 t1 t6 h0 => r (todoOf 6 (bodyOf Go.Proofs.Tryz.f69)) [((0 : Nat), AV.ints IntKind.u64 t0), ((1 : Nat), AV.ints IntKind.u64 t1), ((5 : Nat), AV.vec (nat_lit 0) (nat_lit 1)), ((6 : Nat), AV.int IntKind.i64 t6)] [Blk.I 22 IntKind.u64 h0]) (fun t0 t1 t6 t7 t8 t9 h0 => r (todoOf 16 (bodyOf Go.Proofs.Tryz.f69)) [((0 : Nat), AV.ints IntKind.u64 t0), ((1 : Nat), AV.ints IntKind.u64 t1), ((5 : Nat), AV.vec (nat_lit 0) (nat_lit 1)), ((6 : Nat), AV.int IntKind.i64 t6), ((7 : Nat), AV.int IntKind.u64 t7),
  ((8 : Nat), AV.int IntKind.u64 t8), ((9 : Nat), AV.int IntKind.i64 t9)] [Blk.I 22 IntKind.u64 h0]) (fun t13 h0 h1 => r (todoOf 34 (bodyOf Go.Proofs.Tryz.f69)) [((5 : Nat), AV.vec (nat_lit 0) (nat_lit 1)), ((12 : Nat), AV.vec (nat_lit 1) (nat_lit 1)), ((13 : Nat), AV.int IntKind.i64 t13)] [Blk.I 22 IntKind.u64 h0, Blk.I 22 IntKind.u64 h1]) a b := by kernel_rfl
theorem r3Mul_s6 (r : Rec (dens [.sl (.int .u64)])) (t0 : List Int) (t1 : List Int) (t6 : Int) (h0 : List Int) : evT r3Mul_E r3Mul_h r 3000 true (todoOf 6 (bodyOf Go.Proofs.Tryz.f69)) [((0 : Nat), AV.ints IntKind.u64 t0), ((1 : Nat), AV.ints IntKind.u64 t1), ((5 : Nat), AV.vec (nat_lit 0) (nat_lit 1)), ((6 : Nat), AV.int IntKind.i64 t6)] [Blk.I 22 IntKind.u64 h0] = r3Mul_b6 (fun t0 t1 t6 h0 => r (todoOf 6 (bodyOf Go.Proofs.Tryz.f69)) [((0 : Nat), AV.ints IntKind.u64 t0), ((1 : Nat), AV.ints IntKind.u64 t1), ((5 : Nat), AV.vec (nat_lit 0) (nat_lit 1)), ((6 : Nat), AV.int IntKind.i64 t6)] [Blk.I 22 IntKind.u64 h0]) (fun t0 t1 t6 t7 t8 t9 h0 => r (todoOf 16 (bodyOf Go.Proofs.Tryz.f69)) [((0 : Nat), AV.ints IntKind.u64 t0), ((1 : Nat), AV.ints IntKind.u64 t1), ((5 : Nat), AV.vec (nat_lit 0) (nat_lit 1)), ((6 : Nat), AV.int IntKind.i64 t6), ((7 : Nat), AV.int IntKind.u64 t7),
  ((8 : Nat), AV.int IntKind.u64 t8), ((9 : Nat), AV.int IntKind.i64 t9)] [Blk.I 22 IntKind.u64 h0]) (fun t13 h0 h1 => r (todoOf 34 (bodyOf Go.Proofs.Tryz.f69)) [((5 : Nat), AV.vec (nat_lit 0) (nat_lit 1)), ((12 : Nat), AV.vec (nat_lit 1) (nat_lit 1)), ((13 : Nat), AV.int IntKind.i64 t13)] [Blk.I 22 IntKind.u64 h0, Blk.I 22 IntKind.u64 h1]) t0 t1 t6 h0 := by kernel_rfl
theorem r3Mul_s16 (r : Rec (dens [.sl (.int .u64)])) (t0 : List Int) (t1 : List Int) (t6 : Int) (t7 : Int) (t8 : Int) (t9 : Int) (h0 : List Int) : evT r3Mul_E r3Mul_h r 3000 true (todoOf 16 (bodyOf Go.Proofs.Tryz.f69)) [((0 : Nat), AV.ints IntKind.u64 t0), ((1 : Nat), AV.ints IntKind.u64 t1), ((5 : Nat), AV.vec (nat_lit 0) (nat_lit 1)), ((6 : Nat), AV.int IntKind.i64 t6), ((7 : Nat), AV.int IntKind.u64 t7),
  ((8 : Nat), AV.int IntKind.u64 t8), ((9 : Nat), AV.int IntKind.i64 t9)] [Blk.I 22 IntKind.u64 h0] = r3Mul_b16 (fun t0 t1 t6 h0 => r (todoOf 6 (bodyOf Go.Proofs.Tryz.f69)) [((0 : Nat), AV.ints IntKind.u64 t0), ((1 : Nat), AV.ints IntKind.u64 t1), ((5 : Nat), AV.vec (nat_lit 0) (nat_lit 1)), ((6 : Nat), AV.int IntKind.i64 t6)] [Blk.I 22 IntKind.u64 h0]) (fun t0 t1 t6 t7 t8 t9 h0 => r (todoOf 16 (bodyOf Go.Proofs.Tryz.f69)) [((0 : Nat), AV.ints IntKind.u64 t0), ((1 : Nat), AV.ints IntKind.u64 t1), ((5 : Nat), AV.vec (nat_lit 0) (nat_lit 1)), ((6 : Nat), AV.int IntKind.i64 t6), ((7 : Nat), AV.int IntKind.u64 t7),
  ((8 : Nat), AV.int IntKind.u64 t8), ((9 : Nat), AV.int IntKind.i64 t9)] [Blk.I 22 IntKind.u64 h0]) (fun t13 h0 h1 => r (todoOf 34 (bodyOf Go.Proofs.Tryz.f69)) [((5 : Nat), AV.vec (nat_lit 0) (nat_lit 1)), ((12 : Nat), AV.vec (nat_lit 1) (nat_lit 1)), ((13 : Nat), AV.int IntKind.i64 t13)] [Blk.I 22 IntKind.u64 h0, Blk.I 22 IntKind.u64 h1]) t0 t1 t6 t7 t8 t9 h0 := by kernel_rfl
theorem r3Mul_s34 (r : Rec (dens [.sl (.int .u64)])) (t13 : Int) (h0 : List Int) (h1 : List Int) : evT r3Mul_E r3Mul_h r 3000 true (todoOf 34 (bodyOf Go.Proofs.Tryz.f69)) [((5 : Nat), AV.vec (nat_lit 0) (nat_lit 1)), ((12 : Nat), AV.vec (nat_lit 1) (nat_lit 1)), ((13 : Nat), AV.int IntKind.i64 t13)] [Blk.I 22 IntKind.u64 h0, Blk.I 22 IntKind.u64 h1] = r3Mul_b34 (fun t0 t1 t6 h0 => r (todoOf 6 (bodyOf Go.Proofs.Tryz.f69)) [((0 : Nat), AV.ints IntKind.u64 t0), ((1 : Nat), AV.ints IntKind.u64 t1), ((5 : Nat), AV.vec (nat_lit 0) (nat_lit 1)), ((6 : Nat), AV.int IntKind.i64 t6)] [Blk.I 22 IntKind.u64 h0]) (fun t0 t1 t6 t7 t8 t9 h0 => r (todoOf 16 (bodyOf Go.Proofs.Tryz.f69)) [((0 : Nat), AV.ints IntKind.u64 t0), ((1 : Nat), AV.ints IntKind.u64 t1), ((5 : Nat), AV.vec (nat_lit 0) (nat_lit 1)), ((6 : Nat), AV.int IntKind.i64 t6), ((7 : Nat), AV.int IntKind.u64 t7),
  ((8 : Nat), AV.int IntKind.u64 t8), ((9 : Nat), AV.int IntKind.i64 t9)] [Blk.I 22 IntKind.u64 h0]) (fun t13 h0 h1 => r (todoOf 34 (bodyOf Go.Proofs.Tryz.f69)) [((5 : Nat), AV.vec (nat_lit 0) (nat_lit 1)), ((12 : Nat), AV.vec (nat_lit 1) (nat_lit 1)), ((13 : Nat), AV.int IntKind.i64 t13)] [Blk.I 22 IntKind.u64 h0, Blk.I 22 IntKind.u64 h1]) t13 h0 h1 := by kernel_rfl
theorem r3Mul_k : ∀ k, (∀ (t0 : List Int) (t1 : List Int) (t6 : Int) (h0 : List Int), evK r3Mul_E r3Mul_h 3000 k (todoOf 6 (bodyOf Go.Proofs.Tryz.f69)) [((0 : Nat), AV.ints IntKind.u64 t0), ((1 : Nat), AV.ints IntKind.u64 t1), ((5 : Nat), AV.vec (nat_lit 0) (nat_lit 1)), ((6 : Nat), AV.int IntKind.i64 t6)] [Blk.I 22 IntKind.u64 h0] = r3Mul_L6 k t0 t1 t6 h0) ∧ (∀ (t0 : List Int) (t1 : List Int) (t6 : Int) (t7 : Int) (t8 : Int) (t9 : Int) (h0 : List Int), evK r3Mul_E r3Mul_h 3000 k (todoOf 16 (bodyOf Go.Proofs.Tryz.f69)) [((0 : Nat), AV.ints IntKind.u64 t0), ((1 : Nat), AV.ints IntKind.u64 t1), ((5 : Nat), AV.vec (nat_lit 0) (nat_lit 1)), ((6 : Nat), AV.int IntKind.i64 t6), ((7 : Nat), AV.int IntKind.u64 t7),
  ((8 : Nat), AV.int IntKind.u64 t8), ((9 : Nat), AV.int IntKind.i64 t9)] [Blk.I 22 IntKind.u64 h0] = r3Mul_L16 k t0 t1 t6 t7 t8 t9 h0) ∧ (∀ (t13 : Int) (h0 : List Int) (h1 : List Int), evK r3Mul_E r3Mul_h 3000 k (todoOf 34 (bodyOf Go.Proofs.Tryz.f69)) [((5 : Nat), AV.vec (nat_lit 0) (nat_lit 1)), ((12 : Nat), AV.vec (nat_lit 1) (nat_lit 1)), ((13 : Nat), AV.int IntKind.i64 t13)] [Blk.I 22 IntKind.u64 h0, Blk.I 22 IntKind.u64 h1] = r3Mul_L34 k t13 h0 h1)
  | 0 => by
    refine ⟨?_, ?_, ?_⟩ <;> intros <;> rfl
  | k + 1 => by
    have ih := r3Mul_k k
    refine ⟨?_, ?_, ?_⟩ <;> intros
    · exact ((r3Mul_s6 _ _ _ _ _).trans (by simp only [ih] <;> rfl))
    · exact ((r3Mul_s16 _ _ _ _ _ _ _ _).trans (by simp only [ih] <;> rfl))
    · exact ((r3Mul_s34 _ _ _ _).trans (by simp only [ih] <;> rfl))
theorem r3Mul_ev (k : Nat) (a : List Int) (b : List Int) : evM r3Mul_E r3Mul_h 3000 k [.code (bodyOf Go.Proofs.Tryz.f69)] (T0 0 [.ints .u64 a, .ints .u64 b]) [] = r3Mul_b0 (r3Mul_L6 k) (r3Mul_L16 k) (r3Mul_L34 k) a b := by
  refine (r3Mul_s0 _ a b).trans ?_
  simp only [r3Mul_k k] <;> rfl
end
end Go.RX.S
