/- What functions compute, printed. -/
import Derived.Test.YtciapojlnhiggaaGreatZTe
set_option linter.unusedVariables false
set_option linter.unusedSimpArgs false
namespace Go.RX.S
open Go Go.RX
noncomputable section
def r3at_h : Nat → Option Head := hintOf []
def r3at_b0  (a : List Int) (b : Int) : Option (Int) :=
  bif decide (b < (↑(List.length a) : Int)) then bif inRange b (List.length a) then some (rdI a b) else none else some (0 : Int)
noncomputable def r3at_E : Env (dens [.int .u64]) := envOf S.tab [] Go.Proofs.Tryz.f81 [4] [.int .u64]
theorem r3at_s0 (r : Rec (dens [.int .u64])) (a : List Int) (b : Int) : evT r3at_E r3at_h r 3000 false [.code (bodyOf Go.Proofs.Tryz.f81)] (T0 0 [.ints .u64 a, .int .i64 b]) [] = r3at_b0  a b := by kernel_rfl
theorem r3at_ev (k : Nat) (a : List Int) (b : Int) : evM r3at_E r3at_h 3000 k [.code (bodyOf Go.Proofs.Tryz.f81)] (T0 0 [.ints .u64 a, .int .i64 b]) [] = r3at_b0  a b := by
  exact r3at_s0 _ a b
def r3Bit_h : Nat → Option Head := hintOf []
def r3Bit_b0  (a : List Int) (b : Int) : Option (Int) :=
  Option.bind (r3atF (a, divI IntKind.i64 b (64 : Int))) fun t => bif decide ((0 : Int) ≤ remI b (64 : Int)) then some (andI IntKind.u64 (shrI IntKind.u64 t (remI b (64 : Int))) (1 : Int)) else none
noncomputable def r3Bit_E : Env (dens [.int .u64]) := envOf S.tab [(81, mkF [.sl (.int .u64), .int .i64] [.int .u64] r3atF)] Go.Proofs.Tryz.f80 [4] [.int .u64]
theorem r3Bit_s0 (r : Rec (dens [.int .u64])) (a : List Int) (b : Int) : evT r3Bit_E r3Bit_h r 3000 false [.code (bodyOf Go.Proofs.Tryz.f80)] (T0 0 [.ints .u64 a, .int .i64 b]) [] = r3Bit_b0  a b := by kernel_rfl
theorem r3Bit_ev (k : Nat) (a : List Int) (b : Int) : evM r3Bit_E r3Bit_h 3000 k [.code (bodyOf Go.Proofs.Tryz.f80)] (T0 0 [.ints .u64 a, .int .i64 b]) [] = r3Bit_b0  a b := by
  exact r3Bit_s0 _ a b
def r3Cmp_h : Nat → Option Head := hintOf [(10, ⟨[(0, .same), (1, .same), (6, .same)], 0⟩)]
def r3Cmp_b0 (l10 : List Int → List Int → Int → Option Int) (a : List Int) (b : List Int) : Option (Int) :=
  bif decide ((↑(List.length b) : Int) > (↑(List.length a) : Int)) then l10 a b (subI IntKind.i64 (↑(List.length b) : Int) (1 : Int)) else l10 a b (subI IntKind.i64 (↑(List.length a) : Int) (1 : Int))
def r3Cmp_b10 (l10 : List Int → List Int → Int → Option Int) (t0 : List Int) (t1 : List Int) (t6 : Int) : Option (Int) :=
  bif decide (t6 ≥ (0 : Int)) then
  Option.bind (r3atF (t0, t6)) fun t =>
    Option.bind (r3atF (t1, t6)) fun t_1 =>
      bif decide (t < t_1) then some (-1 : Int)
      else Option.bind (r3atF (t0, t6)) fun t => Option.bind (r3atF (t1, t6)) fun t_2 => bif decide (t > t_2) then some (1 : Int) else l10 t0 t1 (subI IntKind.i64 t6 (1 : Int))
else some (0 : Int)
mutual
def r3Cmp_L10 : Nat → (List Int) → (List Int) → Int → Option (Int)
  | 0, _, _, _ => none
  | k + 1, t0, t1, t6 => r3Cmp_b10 (r3Cmp_L10 k) t0 t1 t6
end
noncomputable def r3Cmp_E : Env (dens [.int .i64]) := envOf S.tab [(81, mkF [.sl (.int .u64), .int .i64] [.int .u64] r3atF)] Go.Proofs.Tryz.f71 [4] [.int .i64]
theorem r3Cmp_s0 (r : Rec (dens [.int .i64])) (a : List Int) (b : List Int) : evT r3Cmp_E r3Cmp_h r 3000 false [.code (bodyOf Go.Proofs.Tryz.f71)] (T0 0 [.ints .u64 a, .ints .u64 b]) [] = r3Cmp_b0 (fun t0 t1 t6 => r (todoOf 10 (bodyOf Go.Proofs.Tryz.f71)) [((0 : Nat), AV.ints IntKind.u64 t0), ((1 : Nat), AV.ints IntKind.u64 t1), ((6 : Nat), AV.int IntKind.i64 t6)] []) a b := by kernel_rfl
theorem r3Cmp_s10 (r : Rec (dens [.int .i64])) (t0 : List Int) (t1 : List Int) (t6 : Int) : evT r3Cmp_E r3Cmp_h r 3000 true (todoOf 10 (bodyOf Go.Proofs.Tryz.f71)) [((0 : Nat), AV.ints IntKind.u64 t0), ((1 : Nat), AV.ints IntKind.u64 t1), ((6 : Nat), AV.int IntKind.i64 t6)] [] = r3Cmp_b10 (fun t0 t1 t6 => r (todoOf 10 (bodyOf Go.Proofs.Tryz.f71)) [((0 : Nat), AV.ints IntKind.u64 t0), ((1 : Nat), AV.ints IntKind.u64 t1), ((6 : Nat), AV.int IntKind.i64 t6)] []) t0 t1 t6 := by kernel_rfl
theorem r3Cmp_k : ∀ k, (∀ (t0 : List Int) (t1 : List Int) (t6 : Int), evK r3Cmp_E r3Cmp_h 3000 k (todoOf 10 (bodyOf Go.Proofs.Tryz.f71)) [((0 : Nat), AV.ints IntKind.u64 t0), ((1 : Nat), AV.ints IntKind.u64 t1), ((6 : Nat), AV.int IntKind.i64 t6)] [] = r3Cmp_L10 k t0 t1 t6)
  | 0 => by
    refine ?_ <;> intros <;> rfl
  | k + 1 => by
    have ih := r3Cmp_k k
    refine ?_ <;> intros
    · exact ((r3Cmp_s10 _ _ _ _).trans (by simp only [ih] <;> rfl))
theorem r3Cmp_ev (k : Nat) (a : List Int) (b : List Int) : evM r3Cmp_E r3Cmp_h 3000 k [.code (bodyOf Go.Proofs.Tryz.f71)] (T0 0 [.ints .u64 a, .ints .u64 b]) [] = r3Cmp_b0 (r3Cmp_L10 k) a b := by
  refine (r3Cmp_s0 _ a b).trans ?_
  simp only [r3Cmp_k k] <;> rfl
def r3Add_h : Nat → Option Head := hintOf [(14, ⟨[(0, .same), (1, .same), (5, .same), (6, .vec 22), (7, .same), (8, .same)], 1⟩)]
def r3Add_b0 (l14 : List Int → List Int → Int → Int → Int → List Int → Option (List Int)) (a : List Int) (b : List Int) : Option (List Int) :=
  bif decide ((↑(List.length b) : Int) > (↑(List.length a) : Int)) then l14 a b (↑(List.length b) : Int) (0 : Int) (0 : Int) [] else l14 a b (↑(List.length a) : Int) (0 : Int) (0 : Int) []
def r3Add_b14 (l14 : List Int → List Int → Int → Int → Int → List Int → Option (List Int)) (t0 : List Int) (t1 : List Int) (t5 : Int) (t7 : Int) (t8 : Int) (h0 : List Int) : Option (List Int) :=
  bif decide (t8 < t5) then
  Option.bind (r3atF (t0, t8)) fun t =>
    Option.bind (r3atF (t1, t8)) fun t_1 =>
      Option.bind (r3atF (t0, t8)) fun t_2 =>
        bif decide (addI IntKind.u64 t t_1 < t_2) then
          bif decide (addI IntKind.u64 (addI IntKind.u64 t t_1) t7 < addI IntKind.u64 t t_1) then
            bif decide ((↑(List.length (h0 ++ [addI IntKind.u64 (addI IntKind.u64 t t_1) t7])) : Int) * (8 : Int) ≤ (140737488355328 : Int)) then
              l14 t0 t1 t5 (1 : Int) (addI IntKind.i64 t8 (1 : Int)) (h0 ++ [addI IntKind.u64 (addI IntKind.u64 t t_1) t7])
            else none
          else
            bif decide ((↑(List.length (h0 ++ [addI IntKind.u64 (addI IntKind.u64 t t_1) t7])) : Int) * (8 : Int) ≤ (140737488355328 : Int)) then
              l14 t0 t1 t5 (1 : Int) (addI IntKind.i64 t8 (1 : Int)) (h0 ++ [addI IntKind.u64 (addI IntKind.u64 t t_1) t7])
            else none
        else
          bif decide (addI IntKind.u64 (addI IntKind.u64 t t_1) t7 < addI IntKind.u64 t t_1) then
            bif decide ((↑(List.length (h0 ++ [addI IntKind.u64 (addI IntKind.u64 t t_1) t7])) : Int) * (8 : Int) ≤ (140737488355328 : Int)) then
              l14 t0 t1 t5 (1 : Int) (addI IntKind.i64 t8 (1 : Int)) (h0 ++ [addI IntKind.u64 (addI IntKind.u64 t t_1) t7])
            else none
          else
            bif decide ((↑(List.length (h0 ++ [addI IntKind.u64 (addI IntKind.u64 t t_1) t7])) : Int) * (8 : Int) ≤ (140737488355328 : Int)) then
              l14 t0 t1 t5 (0 : Int) (addI IntKind.i64 t8 (1 : Int)) (h0 ++ [addI IntKind.u64 (addI IntKind.u64 t t_1) t7])
            else none
else bif decide ((↑(List.length (h0 ++ [t7])) : Int) * (8 : Int) ≤ (140737488355328 : Int)) then Option.bind (r3NormF (h0 ++ [t7])) fun t => some t else none
mutual
def r3Add_L14 : Nat → (List Int) → (List Int) → Int → Int → Int → (List Int) → Option (List Int)
  | 0, _, _, _, _, _, _ => none
  | k + 1, t0, t1, t5, t7, t8, h0 => r3Add_b14 (r3Add_L14 k) t0 t1 t5 t7 t8 h0
end
noncomputable def r3Add_E : Env (dens [.sl (.int .u64)]) := envOf S.tab [(81, mkF [.sl (.int .u64), .int .i64] [.int .u64] r3atF), (63, mkF [.sl (.int .u64)] [.sl (.int .u64)] r3NormF)] Go.Proofs.Tryz.f70 [4] [.sl (.int .u64)]
theorem r3Add_s0 (r : Rec (dens [.sl (.int .u64)])) (a : List Int) (b : List Int) : evT r3Add_E r3Add_h r 3000 false [.code (bodyOf Go.Proofs.Tryz.f70)] (T0 0 [.ints .u64 a, .ints .u64 b]) [] = r3Add_b0 (fun t0 t1 t5 t7 t8 h0 => r (todoOf 14 (bodyOf Go.Proofs.Tryz.f70)) [((0 : Nat), AV.ints IntKind.u64 t0), ((1 : Nat), AV.ints IntKind.u64 t1), ((5 : Nat), AV.int IntKind.i64 t5), ((6 : Nat), AV.vec (nat_lit 0) (nat_lit 1)), ((7 : Nat), AV.int IntKind.u64 t7),
  ((8 : Nat), AV.int IntKind.i64 t8)] [Blk.I 22 IntKind.u64 h0]) a b := by kernel_rfl
theorem r3Add_s14 (r : Rec (dens [.sl (.int .u64)])) (t0 : List Int) (t1 : List Int) (t5 : Int) (t7 : Int) (t8 : Int) (h0 : List Int) : evT r3Add_E r3Add_h r 3000 true (todoOf 14 (bodyOf Go.Proofs.Tryz.f70)) [((0 : Nat), AV.ints IntKind.u64 t0), ((1 : Nat), AV.ints IntKind.u64 t1), ((5 : Nat), AV.int IntKind.i64 t5), ((6 : Nat), AV.vec (nat_lit 0) (nat_lit 1)), ((7 : Nat), AV.int IntKind.u64 t7),
  ((8 : Nat), AV.int IntKind.i64 t8)] [Blk.I 22 IntKind.u64 h0] = r3Add_b14 (fun t0 t1 t5 t7 t8 h0 => r (todoOf 14 (bodyOf Go.Proofs.Tryz.f70)) [((0 : Nat), AV.ints IntKind.u64 t0), ((1 : Nat), AV.ints IntKind.u64 t1), ((5 : Nat), AV.int IntKind.i64 t5), ((6 : Nat), AV.vec (nat_lit 0) (nat_lit 1)), ((7 : Nat), AV.int IntKind.u64 t7),
  ((8 : Nat), AV.int IntKind.i64 t8)] [Blk.I 22 IntKind.u64 h0]) t0 t1 t5 t7 t8 h0 := by kernel_rfl
theorem r3Add_k : ∀ k, (∀ (t0 : List Int) (t1 : List Int) (t5 : Int) (t7 : Int) (t8 : Int) (h0 : List Int), evK r3Add_E r3Add_h 3000 k (todoOf 14 (bodyOf Go.Proofs.Tryz.f70)) [((0 : Nat), AV.ints IntKind.u64 t0), ((1 : Nat), AV.ints IntKind.u64 t1), ((5 : Nat), AV.int IntKind.i64 t5), ((6 : Nat), AV.vec (nat_lit 0) (nat_lit 1)), ((7 : Nat), AV.int IntKind.u64 t7),
  ((8 : Nat), AV.int IntKind.i64 t8)] [Blk.I 22 IntKind.u64 h0] = r3Add_L14 k t0 t1 t5 t7 t8 h0)
  | 0 => by
    refine ?_ <;> intros <;> rfl
  | k + 1 => by
    have ih := r3Add_k k
    refine ?_ <;> intros
    · exact ((r3Add_s14 _ _ _ _ _ _ _).trans (by simp only [ih] <;> rfl))
theorem r3Add_ev (k : Nat) (a : List Int) (b : List Int) : evM r3Add_E r3Add_h 3000 k [.code (bodyOf Go.Proofs.Tryz.f70)] (T0 0 [.ints .u64 a, .ints .u64 b]) [] = r3Add_b0 (r3Add_L14 k) a b := by
  refine (r3Add_s0 _ a b).trans ?_
  simp only [r3Add_k k] <;> rfl
def r3Sub_h : Nat → Option Head := hintOf [(8, ⟨[(0, .same), (1, .same), (5, .vec 22), (6, .same), (7, .same)], 1⟩)]
def r3Sub_b0 (l8 : List Int → List Int → Int → Int → List Int → Option (List Int)) (a : List Int) (b : List Int) : Option (List Int) :=
  l8 a b (0 : Int) (0 : Int) []
def r3Sub_b8 (l8 : List Int → List Int → Int → Int → List Int → Option (List Int)) (t0 : List Int) (t1 : List Int) (t6 : Int) (t7 : Int) (h0 : List Int) : Option (List Int) :=
  bif decide (t7 < (↑(List.length t0) : Int)) then
  Option.bind (r3atF (t1, t7)) fun t =>
    bif inRange t7 (List.length t0) then
      bif inRange t7 (List.length t0) then
        bif decide (rdI t0 t7 < t) then
          bif decide ((↑(List.length (h0 ++ [subI IntKind.u64 (subI IntKind.u64 (rdI t0 t7) t) t6])) : Int) * (8 : Int) ≤ (140737488355328 : Int)) then
            l8 t0 t1 (1 : Int) (addI IntKind.i64 t7 (1 : Int)) (h0 ++ [subI IntKind.u64 (subI IntKind.u64 (rdI t0 t7) t) t6])
          else none
        else
          bif inRange t7 (List.length t0) then
            bif decide (rdI t0 t7 = t) then
              bif decide (t6 = (1 : Int)) then
                bif decide ((↑(List.length (h0 ++ [subI IntKind.u64 (subI IntKind.u64 (rdI t0 t7) t) t6])) : Int) * (8 : Int) ≤ (140737488355328 : Int)) then
                  l8 t0 t1 (1 : Int) (addI IntKind.i64 t7 (1 : Int)) (h0 ++ [subI IntKind.u64 (subI IntKind.u64 (rdI t0 t7) t) t6])
                else none
              else
                bif decide ((↑(List.length (h0 ++ [subI IntKind.u64 (subI IntKind.u64 (rdI t0 t7) t) t6])) : Int) * (8 : Int) ≤ (140737488355328 : Int)) then
                  l8 t0 t1 (0 : Int) (addI IntKind.i64 t7 (1 : Int)) (h0 ++ [subI IntKind.u64 (subI IntKind.u64 (rdI t0 t7) t) t6])
                else none
            else
              bif decide ((↑(List.length (h0 ++ [subI IntKind.u64 (subI IntKind.u64 (rdI t0 t7) t) t6])) : Int) * (8 : Int) ≤ (140737488355328 : Int)) then
                l8 t0 t1 (0 : Int) (addI IntKind.i64 t7 (1 : Int)) (h0 ++ [subI IntKind.u64 (subI IntKind.u64 (rdI t0 t7) t) t6])
              else none
          else none
      else none
    else none
else Option.bind (r3NormF h0) fun t => some t
mutual
def r3Sub_L8 : Nat → (List Int) → (List Int) → Int → Int → (List Int) → Option (List Int)
  | 0, _, _, _, _, _ => none
  | k + 1, t0, t1, t6, t7, h0 => r3Sub_b8 (r3Sub_L8 k) t0 t1 t6 t7 h0
end
noncomputable def r3Sub_E : Env (dens [.sl (.int .u64)]) := envOf S.tab [(81, mkF [.sl (.int .u64), .int .i64] [.int .u64] r3atF), (63, mkF [.sl (.int .u64)] [.sl (.int .u64)] r3NormF)] Go.Proofs.Tryz.f72 [4] [.sl (.int .u64)]
theorem r3Sub_s0 (r : Rec (dens [.sl (.int .u64)])) (a : List Int) (b : List Int) : evT r3Sub_E r3Sub_h r 3000 false [.code (bodyOf Go.Proofs.Tryz.f72)] (T0 0 [.ints .u64 a, .ints .u64 b]) [] = r3Sub_b0 (fun t0 t1 t6 t7 h0 => r (todoOf 8 (bodyOf Go.Proofs.Tryz.f72)) [((0 : Nat), AV.ints IntKind.u64 t0), ((1 : Nat), AV.ints IntKind.u64 t1), ((5 : Nat), AV.vec (nat_lit 0) (nat_lit 1)), ((6 : Nat), AV.int IntKind.u64 t6), ((7 : Nat), AV.int IntKind.i64 t7)] [Blk.I 22 IntKind.u64 h0]) a b := by kernel_rfl
theorem r3Sub_s8 (r : Rec (dens [.sl (.int .u64)])) (t0 : List Int) (t1 : List Int) (t6 : Int) (t7 : Int) (h0 : List Int) : evT r3Sub_E r3Sub_h r 3000 true (todoOf 8 (bodyOf Go.Proofs.Tryz.f72)) [((0 : Nat), AV.ints IntKind.u64 t0), ((1 : Nat), AV.ints IntKind.u64 t1), ((5 : Nat), AV.vec (nat_lit 0) (nat_lit 1)), ((6 : Nat), AV.int IntKind.u64 t6), ((7 : Nat), AV.int IntKind.i64 t7)] [Blk.I 22 IntKind.u64 h0] = r3Sub_b8 (fun t0 t1 t6 t7 h0 => r (todoOf 8 (bodyOf Go.Proofs.Tryz.f72)) [((0 : Nat), AV.ints IntKind.u64 t0), ((1 : Nat), AV.ints IntKind.u64 t1), ((5 : Nat), AV.vec (nat_lit 0) (nat_lit 1)), ((6 : Nat), AV.int IntKind.u64 t6), ((7 : Nat), AV.int IntKind.i64 t7)] [Blk.I 22 IntKind.u64 h0]) t0 t1 t6 t7 h0 := by kernel_rfl
theorem r3Sub_k : ∀ k, (∀ (t0 : List Int) (t1 : List Int) (t6 : Int) (t7 : Int) (h0 : List Int), evK r3Sub_E r3Sub_h 3000 k (todoOf 8 (bodyOf Go.Proofs.Tryz.f72)) [((0 : Nat), AV.ints IntKind.u64 t0), ((1 : Nat), AV.ints IntKind.u64 t1), ((5 : Nat), AV.vec (nat_lit 0) (nat_lit 1)), ((6 : Nat), AV.int IntKind.u64 t6), ((7 : Nat), AV.int IntKind.i64 t7)] [Blk.I 22 IntKind.u64 h0] = r3Sub_L8 k t0 t1 t6 t7 h0)
  | 0 => by
    refine ?_ <;> intros <;> rfl
  | k + 1 => by
    have ih := r3Sub_k k
    refine ?_ <;> intros
    · exact ((r3Sub_s8 _ _ _ _ _ _).trans (by simp only [ih] <;> rfl))
theorem r3Sub_ev (k : Nat) (a : List Int) (b : List Int) : evM r3Sub_E r3Sub_h 3000 k [.code (bodyOf Go.Proofs.Tryz.f72)] (T0 0 [.ints .u64 a, .ints .u64 b]) [] = r3Sub_b0 (r3Sub_L8 k) a b := by
  refine (r3Sub_s0 _ a b).trans ?_
  simp only [r3Sub_k k] <;> rfl
def r3Shl_h : Nat → Option Head := hintOf [(6, ⟨[(0, .same), (1, .same), (5, .vec 22), (6, .same)], 1⟩), (18, ⟨[(0, .same), (5, .vec 22), (7, .same), (8, .same), (9, .same)], 1⟩)]
def r3Shl_b0 (l6 : List Int → Int → Int → List Int → Option (List Int)) (l18 : List Int → Int → Int → Int → List Int → Option (List Int)) (a : List Int) (b : Int) : Option (List Int) :=
  l6 a b (0 : Int) []
def r3Shl_b6 (l6 : List Int → Int → Int → List Int → Option (List Int)) (l18 : List Int → Int → Int → Int → List Int → Option (List Int)) (t0 : List Int) (t1 : Int) (t6 : Int) (h0 : List Int) : Option (List Int) :=
  bif decide (t6 < divI IntKind.i64 t1 (64 : Int)) then
  bif decide ((↑(List.length (h0 ++ [(0 : Int)])) : Int) * (8 : Int) ≤ (140737488355328 : Int)) then l6 t0 t1 (addI IntKind.i64 t6 (1 : Int)) (h0 ++ [(0 : Int)]) else none
else l18 t0 (remI t1 (64 : Int)) (0 : Int) (0 : Int) h0
def r3Shl_b18 (l6 : List Int → Int → Int → List Int → Option (List Int)) (l18 : List Int → Int → Int → Int → List Int → Option (List Int)) (t0 : List Int) (t7 : Int) (t8 : Int) (t9 : Int) (h0 : List Int) : Option (List Int) :=
  bif decide (t9 < (↑(List.length t0) : Int)) then
  bif inRange t9 (List.length t0) then
    bif decide ((0 : Int) ≤ t7) then
      bif decide ((↑(List.length (h0 ++ [orI IntKind.u64 (shlI IntKind.u64 (rdI t0 t9) t7) t8])) : Int) * (8 : Int) ≤ (140737488355328 : Int)) then
        bif decide (t7 > (0 : Int)) then
          bif inRange t9 (List.length t0) then
            bif decide ((0 : Int) ≤ subI IntKind.i64 (64 : Int) t7) then
              l18 t0 t7 (shrI IntKind.u64 (rdI t0 t9) (subI IntKind.i64 (64 : Int) t7)) (addI IntKind.i64 t9 (1 : Int)) (h0 ++ [orI IntKind.u64 (shlI IntKind.u64 (rdI t0 t9) t7) t8])
            else none
          else none
        else l18 t0 t7 (0 : Int) (addI IntKind.i64 t9 (1 : Int)) (h0 ++ [orI IntKind.u64 (shlI IntKind.u64 (rdI t0 t9) t7) t8])
      else none
    else none
  else none
else bif decide ((↑(List.length (h0 ++ [t8])) : Int) * (8 : Int) ≤ (140737488355328 : Int)) then Option.bind (r3NormF (h0 ++ [t8])) fun t => some t else none
mutual
def r3Shl_L6 : Nat → (List Int) → Int → Int → (List Int) → Option (List Int)
  | 0, _, _, _, _ => none
  | k + 1, t0, t1, t6, h0 => r3Shl_b6 (r3Shl_L6 k) (r3Shl_L18 k) t0 t1 t6 h0
def r3Shl_L18 : Nat → (List Int) → Int → Int → Int → (List Int) → Option (List Int)
  | 0, _, _, _, _, _ => none
  | k + 1, t0, t7, t8, t9, h0 => r3Shl_b18 (r3Shl_L6 k) (r3Shl_L18 k) t0 t7 t8 t9 h0
end
noncomputable def r3Shl_E : Env (dens [.sl (.int .u64)]) := envOf S.tab [(63, mkF [.sl (.int .u64)] [.sl (.int .u64)] r3NormF)] Go.Proofs.Tryz.f31 [4] [.sl (.int .u64)]
theorem r3Shl_s0 (r : Rec (dens [.sl (.int .u64)])) (a : List Int) (b : Int) : evT r3Shl_E r3Shl_h r 3000 false [.code (bodyOf Go.Proofs.Tryz.f31)] (T0 0 [.ints .u64 a, .int .i64 b]) [] = r3Shl_b0 (fun t0 t1 t6 h0 => r (todoOf 6 (bodyOf Go.Proofs.Tryz.f31)) [((0 : Nat), AV.ints IntKind.u64 t0), ((1 : Nat), AV.int IntKind.i64 t1), ((5 : Nat), AV.vec (nat_lit 0) (nat_lit 1)), ((6 : Nat), AV.int IntKind.i64 t6)] [Blk.I 22 IntKind.u64 h0]) (fun t0 t7 t8 t9 h0 => r (todoOf 18 (bodyOf Go.Proofs.Tryz.f31)) [((0 : Nat), AV.ints IntKind.u64 t0), ((5 : Nat), AV.vec (nat_lit 0) (nat_lit 1)), ((7 : Nat), AV.int IntKind.i64 t7), ((8 : Nat), AV.int IntKind.u64 t8), ((9 : Nat), AV.int IntKind.i64 t9)] [Blk.I 22 IntKind.u64 h0]) a b := by kernel_rfl
theorem r3Shl_s6 (r : Rec (dens [.sl (.int .u64)])) (t0 : List Int) (t1 : Int) (t6 : Int) (h0 : List Int) : evT r3Shl_E r3Shl_h r 3000 true (todoOf 6 (bodyOf Go.Proofs.Tryz.f31)) [((0 : Nat), AV.ints IntKind.u64 t0), ((1 : Nat), AV.int IntKind.i64 t1), ((5 : Nat), AV.vec (nat_lit 0) (nat_lit 1)), ((6 : Nat), AV.int IntKind.i64 t6)] [Blk.I 22 IntKind.u64 h0] = r3Shl_b6 (fun t0 t1 t6 h0 => r (todoOf 6 (bodyOf Go.Proofs.Tryz.f31)) [((0 : Nat), AV.ints IntKind.u64 t0), ((1 : Nat), AV.int IntKind.i64 t1), ((5 : Nat), AV.vec (nat_lit 0) (nat_lit 1)), ((6 : Nat), AV.int IntKind.i64 t6)] [Blk.I 22 IntKind.u64 h0]) (fun t0 t7 t8 t9 h0 => r (todoOf 18 (bodyOf Go.Proofs.Tryz.f31)) [((0 : Nat), AV.ints IntKind.u64 t0), ((5 : Nat), AV.vec (nat_lit 0) (nat_lit 1)), ((7 : Nat), AV.int IntKind.i64 t7), ((8 : Nat), AV.int IntKind.u64 t8), ((9 : Nat), AV.int IntKind.i64 t9)] [Blk.I 22 IntKind.u64 h0]) t0 t1 t6 h0 := by kernel_rfl
theorem r3Shl_s18 (r : Rec (dens [.sl (.int .u64)])) (t0 : List Int) (t7 : Int) (t8 : Int) (t9 : Int) (h0 : List Int) : evT r3Shl_E r3Shl_h r 3000 true (todoOf 18 (bodyOf Go.Proofs.Tryz.f31)) [((0 : Nat), AV.ints IntKind.u64 t0), ((5 : Nat), AV.vec (nat_lit 0) (nat_lit 1)), ((7 : Nat), AV.int IntKind.i64 t7), ((8 : Nat), AV.int IntKind.u64 t8), ((9 : Nat), AV.int IntKind.i64 t9)] [Blk.I 22 IntKind.u64 h0] = r3Shl_b18 (fun t0 t1 t6 h0 => r (todoOf 6 (bodyOf Go.Proofs.Tryz.f31)) [((0 : Nat), AV.ints IntKind.u64 t0), ((1 : Nat), AV.int IntKind.i64 t1), ((5 : Nat), AV.vec (nat_lit 0) (nat_lit 1)), ((6 : Nat), AV.int IntKind.i64 t6)] [Blk.I 22 IntKind.u64 h0]) (fun t0 t7 t8 t9 h0 => r (todoOf 18 (bodyOf Go.Proofs.Tryz.f31)) [((0 : Nat), AV.ints IntKind.u64 t0), ((5 : Nat), AV.vec (nat_lit 0) (nat_lit 1)), ((7 : Nat), AV.int IntKind.i64 t7), ((8 : Nat), AV.int IntKind.u64 t8), ((9 : Nat), AV.int IntKind.i64 t9)] [Blk.I 22 IntKind.u64 h0]) t0 t7 t8 t9 h0 := by kernel_rfl
theorem r3Shl_k : ∀ k, (∀ (t0 : List Int) (t1 : Int) (t6 : Int) (h0 : List Int), evK r3Shl_E r3Shl_h 3000 k (todoOf 6 (bodyOf Go.Proofs.Tryz.f31)) [((0 : Nat), AV.ints IntKind.u64 t0), ((1 : Nat), AV.int IntKind.i64 t1), ((5 : Nat), AV.vec (nat_lit 0) (nat_lit 1)), ((6 : Nat), AV.int IntKind.i64 t6)] [Blk.I 22 IntKind.u64 h0] = r3Shl_L6 k t0 t1 t6 h0) ∧ (∀ (t0 : List Int) (t7 : Int) (t8 : Int) (t9 : Int) (h0 : List Int), evK r3Shl_E r3Shl_h 3000 k (todoOf 18 (bodyOf Go.Proofs.Tryz.f31)) [((0 : Nat), AV.ints IntKind.u64 t0), ((5 : Nat), AV.vec (nat_lit 0) (nat_lit 1)), ((7 : Nat), AV.int IntKind.i64 t7), ((8 : Nat), AV.int IntKind.u64 t8), ((9 : Nat), AV.int IntKind.i64 t9)] [Blk.I 22 IntKind.u64 h0] = r3Shl_L18 k t0 t7 t8 t9 h0)
  | 0 => by
    refine ⟨?_, ?_⟩ <;> intros <;> rfl
  | k + 1 => by
    have ih := r3Shl_k k
    refine ⟨?_, ?_⟩ <;> intros
    · exact ((r3Shl_s6 _ _ _ _ _).trans (by simp only [ih] <;> rfl))
    · exact ((r3Shl_s18 _ _ _ _ _ _).trans (by simp only [ih] <;> rfl))
theorem r3Shl_ev (k : Nat) (a : List Int) (b : Int) : evM r3Shl_E r3Shl_h 3000 k [.code (bodyOf Go.Proofs.Tryz.f31)] (T0 0 [.ints .u64 a, .int .i64 b]) [] = r3Shl_b0 (r3Shl_L6 k) (r3Shl_L18 k) a b := by
  refine (r3Shl_s0 _ a b).trans ?_
  simp only [r3Shl_k k] <;> rfl
def r3DivMod_h : Nat → Option Head := hintOf [(16, ⟨[(0, .same), (7, .same), (9, .same), (10, .same), (11, .same)], 2⟩), (24, ⟨[(0, .same), (7, .same), (9, .same), (10, .same), (11, .same), (12, .same), (13, .same)], 2⟩), (40, ⟨[(0, .same), (7, .same), (9, .same), (10, .same), (11, .same), (15, .same), (16, .same)], 2⟩)]
def r3DivMod_b0 (l16 : List Int → List Int → Int → List Int → List Int → Option (List Int × List Int × Int)) (l24 : List Int → List Int → Int → Int → Int → List Int → List Int → Option (List Int × List Int × Int)) (l40 : List Int → List Int → Int → Int → Int → List Int → List Int → Option (List Int × List Int × Int)) (a : List Int) (b : List Int) : Option (List Int × List Int × Int) :=
  Option.bind (r3NormF b) fun t =>
  bif decide ((↑(List.length t) : Int) = (0 : Int)) then some ([], [], (30 : Int))
  else
    Option.bind (r3BitsF a) fun t_1 =>
      bif
          bif decide ((0 : Int) ≤ addI IntKind.i64 (divI IntKind.i64 t_1 (64 : Int)) (1 : Int)) then
            decide (addI IntKind.i64 (divI IntKind.i64 t_1 (64 : Int)) (1 : Int) * (8 : Int) ≤ (281474976710656 : Int))
          else false then
        bif
            bif decide ((0 : Int) ≤ addI IntKind.i64 (↑(List.length t) : Int) (1 : Int)) then decide (addI IntKind.i64 (↑(List.length t) : Int) (1 : Int) * (8 : Int) ≤ (281474976710656 : Int))
            else false then
          l16 a t (subI IntKind.i64 t_1 (1 : Int)) (List.replicate (Int.toNat (addI IntKind.i64 (divI IntKind.i64 t_1 (64 : Int)) (1 : Int))) (0 : Int))
            (List.replicate (Int.toNat (addI IntKind.i64 (↑(List.length t) : Int) (1 : Int))) (0 : Int))
        else none
      else none
def r3DivMod_b16 (l16 : List Int → List Int → Int → List Int → List Int → Option (List Int × List Int × Int)) (l24 : List Int → List Int → Int → Int → Int → List Int → List Int → Option (List Int × List Int × Int)) (l40 : List Int → List Int → Int → Int → Int → List Int → List Int → Option (List Int × List Int × Int)) (t0 : List Int) (t7 : List Int) (t11 : Int) (h0 : List Int) (h1 : List Int) : Option (List Int × List Int × Int) :=
  bif decide (t11 ≥ (0 : Int)) then Option.bind (r3BitF (t0, t11)) fun t => l24 t0 t7 t11 t (0 : Int) h0 h1
else Option.bind (r3NormF h0) fun t => Option.bind (r3NormF h1) fun t_1 => some (t, t_1, (0 : Int))
def r3DivMod_b24 (l16 : List Int → List Int → Int → List Int → List Int → Option (List Int × List Int × Int)) (l24 : List Int → List Int → Int → Int → Int → List Int → List Int → Option (List Int × List Int × Int)) (l40 : List Int → List Int → Int → Int → Int → List Int → List Int → Option (List Int × List Int × Int)) (t0 : List Int) (t7 : List Int) (t11 : Int) (t12 : Int) (t13 : Int) (h0 : List Int) (h1 : List Int) : Option (List Int × List Int × Int) :=
  bif decide (t13 < (↑(List.length h1) : Int)) then
  bif inRange t13 (List.length h1) then
    bif inRange t13 (List.length h1) then
      bif inRange t13 (List.length h1) then
        l24 t0 t7 t11 (shrI IntKind.u64 (rdN h1 (Int.toNat t13)) (63 : Int)) (addI IntKind.i64 t13 (1 : Int)) h0
          (wrI h1 (Int.toNat t13) (orI IntKind.u64 (shlI IntKind.u64 (rdN h1 (Int.toNat t13)) (1 : Int)) t12))
      else none
    else none
  else none
else Option.bind (r3CmpF (h1, t7)) fun t => bif decide (t ≥ (0 : Int)) then l40 t0 t7 t11 (0 : Int) (0 : Int) h0 h1 else l16 t0 t7 (subI IntKind.i64 t11 (1 : Int)) h0 h1
def r3DivMod_b40 (l16 : List Int → List Int → Int → List Int → List Int → Option (List Int × List Int × Int)) (l24 : List Int → List Int → Int → Int → Int → List Int → List Int → Option (List Int × List Int × Int)) (l40 : List Int → List Int → Int → Int → Int → List Int → List Int → Option (List Int × List Int × Int)) (t0 : List Int) (t7 : List Int) (t11 : Int) (t15 : Int) (t16 : Int) (h0 : List Int) (h1 : List Int) : Option (List Int × List Int × Int) :=
  bif decide (t16 < (↑(List.length h1) : Int)) then
  Option.bind (r3atF (t7, t16)) fun t =>
    bif inRange t16 (List.length h1) then
      bif inRange t16 (List.length h1) then
        bif decide (rdN h1 (Int.toNat t16) < t) then
          l40 t0 t7 t11 (1 : Int) (addI IntKind.i64 t16 (1 : Int)) h0 (wrI h1 (Int.toNat t16) (subI IntKind.u64 (subI IntKind.u64 (rdN h1 (Int.toNat t16)) t) t15))
        else
          bif decide (rdN h1 (Int.toNat t16) = t) then
            bif decide (t15 = (1 : Int)) then l40 t0 t7 t11 (1 : Int) (addI IntKind.i64 t16 (1 : Int)) h0 (wrI h1 (Int.toNat t16) (subI IntKind.u64 (subI IntKind.u64 (rdN h1 (Int.toNat t16)) t) t15))
            else l40 t0 t7 t11 (0 : Int) (addI IntKind.i64 t16 (1 : Int)) h0 (wrI h1 (Int.toNat t16) (subI IntKind.u64 (subI IntKind.u64 (rdN h1 (Int.toNat t16)) t) t15))
          else l40 t0 t7 t11 (0 : Int) (addI IntKind.i64 t16 (1 : Int)) h0 (wrI h1 (Int.toNat t16) (subI IntKind.u64 (subI IntKind.u64 (rdN h1 (Int.toNat t16)) t) t15))
      else none
    else none
else
  bif inRange (divI IntKind.i64 t11 (64 : Int)) (List.length h0) then
    bif decide ((0 : Int) ≤ remI t11 (64 : Int)) then
      bif inRange (divI IntKind.i64 t11 (64 : Int)) (List.length h0) then
        l16 t0 t7 (subI IntKind.i64 t11 (1 : Int))
          (wrI h0 (Int.toNat (divI IntKind.i64 t11 (64 : Int))) (orI IntKind.u64 (rdN h0 (Int.toNat (divI IntKind.i64 t11 (64 : Int)))) (shlI IntKind.u64 (1 : Int) (remI t11 (64 : Int))))) h1
      else none
    else none
  else none
mutual
def r3DivMod_L16 : Nat → (List Int) → (List Int) → Int → (List Int) → (List Int) → Option (List Int × List Int × Int)
  | 0, _, _, _, _, _ => none
  | k + 1, t0, t7, t11, h0, h1 => r3DivMod_b16 (r3DivMod_L16 k) (r3DivMod_L24 k) (r3DivMod_L40 k) t0 t7 t11 h0 h1
def r3DivMod_L24 : Nat → (List Int) → (List Int) → Int → Int → Int → (List Int) → (List Int) → Option (List Int × List Int × Int)
  | 0, _, _, _, _, _, _, _ => none
  | k + 1, t0, t7, t11, t12, t13, h0, h1 => r3DivMod_b24 (r3DivMod_L16 k) (r3DivMod_L24 k) (r3DivMod_L40 k) t0 t7 t11 t12 t13 h0 h1
def r3DivMod_L40 : Nat → (List Int) → (List Int) → Int → Int → Int → (List Int) → (List Int) → Option (List Int × List Int × Int)
  | 0, _, _, _, _, _, _, _ => none
  | k + 1, t0, t7, t11, t15, t16, h0, h1 => r3DivMod_b40 (r3DivMod_L16 k) (r3DivMod_L24 k) (r3DivMod_L40 k) t0 t7 t11 t15 t16 h0 h1
end
noncomputable def r3DivMod_E : Env (dens [.sl (.int .u64), .sl (.int .u64), .int .i64]) := envOf S.tab [(63, mkF [.sl (.int .u64)] [.sl (.int .u64)] r3NormF), (59, mkF [.sl (.int .u64)] [.int .i64] r3BitsF), (80, mkF [.sl (.int .u64), .int .i64] [.int .u64] r3BitF), (71, mkF [.sl (.int .u64), .sl (.int .u64)] [.int .i64] r3CmpF), (81, mkF [.sl (.int .u64), .int .i64] [.int .u64] r3atF)] Go.Proofs.Tryz.f62 [4, 5, 6] [.sl (.int .u64), .sl (.int .u64), .int .i64]
theorem r3DivMod_s0 (r : Rec (dens [.sl (.int .u64), .sl (.int .u64), .int .i64])) (a : List Int) (b : List Int) : evT r3DivMod_E r3DivMod_h r 3000 false [.code (bodyOf Go.Proofs.Tryz.f62)] (T0 0 [.ints .u64 a, .ints .u64 b]) [] = r3DivMod_b0 (fun t0 t7 t11 h0 h1 => r (todoOf 16 (bodyOf Go.Proofs.Tryz.f62)) [((0 : Nat), AV.ints IntKind.u64 t0), ((7 : Nat), AV.ints IntKind.u64 t7), ((9 : Nat), AV.vec (nat_lit 0) (nat_lit 1)), ((10 : Nat), AV.vec (nat_lit 1) (nat_lit 1)),
  ((11 : Nat), AV.int IntKind.i64 t11)] [Blk.I 22 IntKind.u64 h0, Blk.I 22 IntKind.u64 h1]) (fun t0 t7 t11 t12 t13 h0 h1 => r (todoOf 24 (bodyOf Go.Proofs.Tryz.f62)) [((0 : Nat), AV.ints IntKind.u64 t0), ((7 : Nat), AV.ints IntKind.u64 t7), ((9 : Nat), AV.vec (nat_lit 0) (nat_lit 1)), ((10 : Nat), AV.vec (nat_lit 1) (nat_lit 1)),
  ((11 : Nat), AV.int IntKind.i64 t11), ((12 : Nat), AV.int IntKind.u64 t12), ((13 : Nat), AV.int IntKind.i64 t13)] [Blk.I 22 IntKind.u64 h0, Blk.I 22 IntKind.u64 h1]) (fun t0 t7 t11 t15 t16 h0 h1 => r (todoOf 40 (bodyOf Go.Proofs.Tryz.f62)) [((0 : Nat), AV.ints IntKind.u64 t0), ((7 : Nat), AV.ints IntKind.u64 t7), ((9 : Nat), AV.vec (nat_lit 0) (nat_lit 1)), ((10 : Nat), AV.vec (nat_lit 1) (nat_lit 1)),
  ((11 : Nat), AV.int IntKind.i64 t11), ((15 : Nat), AV.int IntKind.u64 t15), ((16 : Nat), AV.int IntKind.i64 t16)] [Blk.I 22 IntKind.u64 h0, Blk.I 22 IntKind.u64 h1]) a b := by kernel_rfl
theorem r3DivMod_s16 (r : Rec (dens [.sl (.int .u64), .sl (.int .u64), .int .i64])) (t0 : List Int) (t7 : List Int) (t11 : Int) (h0 : List Int) (h1 : List Int) : evT r3DivMod_E r3DivMod_h r 3000 true (todoOf 16 (bodyOf Go.Proofs.Tryz.f62)) [((0 : Nat), AV.ints IntKind.u64 t0), ((7 : Nat), AV.ints IntKind.u64 t7), ((9 : Nat), AV.vec (nat_lit 0) (nat_lit 1)), ((10 : Nat), AV.vec (nat_lit 1) (nat_lit 1)),
  ((11 : Nat), AV.int IntKind.i64 t11)] [Blk.I 22 IntKind.u64 h0, Blk.I 22 IntKind.u64 h1] = r3DivMod_b16 (fun t0 t7 t11 h0 h1 => r (todoOf 16 (bodyOf Go.Proofs.Tryz.f62)) [((0 : Nat), AV.ints IntKind.u64 t0), ((7 : Nat), AV.ints IntKind.u64 t7), ((9 : Nat), AV.vec (nat_lit 0) (nat_lit 1)), ((10 : Nat), AV.vec (nat_lit 1) (nat_lit 1)),
  ((11 : Nat), AV.int IntKind.i64 t11)] [Blk.I 22 IntKind.u64 h0, Blk.I 22 IntKind.u64 h1]) (fun t0 t7 t11 t12 t13 h0 h1 => r (todoOf 24 (bodyOf Go.Proofs.Tryz.f62)) [((0 : Nat), AV.ints IntKind.u64 t0), ((7 : Nat), AV.ints IntKind.u64 t7), ((9 : Nat), AV.vec (nat_lit 0) (nat_lit 1)), ((10 : Nat), AV.vec (nat_lit 1) (nat_lit 1)),
  ((11 : Nat), AV.int IntKind.i64 t11), ((12 : Nat), AV.int IntKind.u64 t12), ((13 : Nat), AV.int IntKind.i64 t13)] [Blk.I 22 IntKind.u64 h0, Blk.I 22 IntKind.u64 h1]) (fun t0 t7 t11 t15 t16 h0 h1 => r (todoOf 40 (bodyOf Go.Proofs.Tryz.f62)) [((0 : Nat), AV.ints IntKind.u64 t0), ((7 : Nat), AV.ints IntKind.u64 t7), ((9 : Nat), AV.vec (nat_lit 0) (nat_lit 1)), ((10 : Nat), AV.vec (nat_lit 1) (nat_lit 1)),
  ((11 : Nat), AV.int IntKind.i64 t11), ((15 : Nat), AV.int IntKind.u64 t15), ((16 : Nat), AV.int IntKind.i64 t16)] [Blk.I 22 IntKind.u64 h0, Blk.I 22 IntKind.u64 h1]) t0 t7 t11 h0 h1 := by kernel_rfl
theorem r3DivMod_s24 (r : Rec (dens [.sl (.int .u64), .sl (.int .u64), .int .i64])) (t0 : List Int) (t7 : List Int) (t11 : Int) (t12 : Int) (t13 : Int) (h0 : List Int) (h1 : List Int) : evT r3DivMod_E r3DivMod_h r 3000 true (todoOf 24 (bodyOf Go.Proofs.Tryz.f62)) [((0 : Nat), AV.ints IntKind.u64 t0), ((7 : Nat), AV.ints IntKind.u64 t7), ((9 : Nat), AV.vec (nat_lit 0) (nat_lit 1)), ((10 : Nat), AV.vec (nat_lit 1) (nat_lit 1)),
  ((11 : Nat), AV.int IntKind.i64 t11), ((12 : Nat), AV.int IntKind.u64 t12), ((13 : Nat), AV.int IntKind.i64 t13)] [Blk.I 22 IntKind.u64 h0, Blk.I 22 IntKind.u64 h1] = r3DivMod_b24 (fun t0 t7 t11 h0 h1 => r (todoOf 16 (bodyOf Go.Proofs.Tryz.f62)) [((0 : Nat), AV.ints IntKind.u64 t0), ((7 : Nat), AV.ints IntKind.u64 t7), ((9 : Nat), AV.vec (nat_lit 0) (nat_lit 1)), ((10 : Nat), AV.vec (nat_lit 1) (nat_lit 1)),
  ((11 : Nat), AV.int IntKind.i64 t11)] [Blk.I 22 IntKind.u64 h0, Blk.I 22 IntKind.u64 h1]) (fun t0 t7 t11 t12 t13 h0 h1 => r (todoOf 24 (bodyOf Go.Proofs.Tryz.f62)) [((0 : Nat), AV.ints IntKind.u64 t0), ((7 : Nat), AV.ints IntKind.u64 t7), ((9 : Nat), AV.vec (nat_lit 0) (nat_lit 1)), ((10 : Nat), AV.vec (nat_lit 1) (nat_lit 1)),
  ((11 : Nat), AV.int IntKind.i64 t11), ((12 : Nat), AV.int IntKind.u64 t12), ((13 : Nat), AV.int IntKind.i64 t13)] [Blk.I 22 IntKind.u64 h0, Blk.I 22 IntKind.u64 h1]) (fun t0 t7 t11 t15 t16 h0 h1 => r (todoOf 40 (bodyOf Go.Proofs.Tryz.f62)) [((0 : Nat), AV.ints IntKind.u64 t0), ((7 : Nat), AV.ints IntKind.u64 t7), ((9 : Nat), AV.vec (nat_lit 0) (nat_lit 1)), ((10 : Nat), AV.vec (nat_lit 1) (nat_lit 1)),
  ((11 : Nat), AV.int IntKind.i64 t11), ((15 : Nat), AV.int IntKind.u64 t15), ((16 : Nat), AV.int IntKind.i64 t16)] [Blk.I 22 IntKind.u64 h0, Blk.I 22 IntKind.u64 h1]) t0 t7 t11 t12 t13 h0 h1 := by kernel_rfl
theorem r3DivMod_s40 (r : Rec (dens [.sl (.int .u64), .sl (.int .u64), .int .i64])) (t0 : List Int) (t7 : List Int) (t11 : Int) (t15 : Int) (t16 : Int) (h0 : List Int) (h1 : List Int) : evT r3DivMod_E r3DivMod_h r 3000 true (todoOf 40 (bodyOf Go.Proofs.Tryz.f62)) [((0 : Nat), AV.ints IntKind.u64 t0), ((7 : Nat), AV.ints IntKind.u64 t7), ((9 : Nat), AV.vec (nat_lit 0) (nat_lit 1)), ((10 : Nat), AV.vec (nat_lit 1) (nat_lit 1)),
  ((11 : Nat), AV.int IntKind.i64 t11), ((15 : Nat), AV.int IntKind.u64 t15), ((16 : Nat), AV.int IntKind.i64 t16)] [Blk.I 22 IntKind.u64 h0, Blk.I 22 IntKind.u64 h1] = r3DivMod_b40 (fun t0 t7 t11 h0 h1 => r (todoOf 16 (bodyOf Go.Proofs.Tryz.f62)) [((0 : Nat), AV.ints IntKind.u64 t0), ((7 : Nat), AV.ints IntKind.u64 t7), ((9 : Nat), AV.vec (nat_lit 0) (nat_lit 1)), ((10 : Nat), AV.vec (nat_lit 1) (nat_lit 1)),
  ((11 : Nat), AV.int IntKind.i64 t11)] [Blk.I 22 IntKind.u64 h0, Blk.I 22 IntKind.u64 h1]) (fun t0 t7 t11 t12 t13 h0 h1 => r (todoOf 24 (bodyOf Go.Proofs.Tryz.f62)) [((0 : Nat), AV.ints IntKind.u64 t0), ((7 : Nat), AV.ints IntKind.u64 t7), ((9 : Nat), AV.vec (nat_lit 0) (nat_lit 1)), ((10 : Nat), AV.vec (nat_lit 1) (nat_lit 1)),
  ((11 : Nat), AV.int IntKind.i64 t11), ((12 : Nat), AV.int IntKind.u64 t12), ((13 : Nat), AV.int IntKind.i64 t13)] [Blk.I 22 IntKind.u64 h0, Blk.I 22 IntKind.u64 h1]) (fun t0 t7 t11 t15 t16 h0 h1 => r (todoOf 40 (bodyOf Go.Proofs.Tryz.f62)) [((0 : Nat), AV.ints IntKind.u64 t0), ((7 : Nat), AV.ints IntKind.u64 t7), ((9 : Nat), AV.vec (nat_lit 0) (nat_lit 1)), ((10 : Nat), AV.vec (nat_lit 1) (nat_lit 1)),
  ((11 : Nat), AV.int IntKind.i64 t11), ((15 : Nat), AV.int IntKind.u64 t15), ((16 : Nat), AV.int IntKind.i64 t16)] [Blk.I 22 IntKind.u64 h0, Blk.I 22 IntKind.u64 h1]) t0 t7 t11 t15 t16 h0 h1 := by kernel_rfl
theorem r3DivMod_k : ∀ k, (∀ (t0 : List Int) (t7 : List Int) (t11 : Int) (h0 : List Int) (h1 : List Int), evK r3DivMod_E r3DivMod_h 3000 k (todoOf 16 (bodyOf Go.Proofs.Tryz.f62)) [((0 : Nat), AV.ints IntKind.u64 t0), ((7 : Nat), AV.ints IntKind.u64 t7), ((9 : Nat), AV.vec (nat_lit 0) (nat_lit 1)), ((10 : Nat), AV.vec (nat_lit 1) (nat_lit 1)),
  ((11 : Nat), AV.int IntKind.i64 t11)] [Blk.I 22 IntKind.u64 h0, Blk.I 22 IntKind.u64 h1] = r3DivMod_L16 k t0 t7 t11 h0 h1) ∧ (∀ (t0 : List Int) (t7 : List Int) (t11 : Int) (t12 : Int) (t13 : Int) (h0 : List Int) (h1 : List Int), evK r3DivMod_E r3DivMod_h 3000 k (todoOf 24 (bodyOf Go.Proofs.Tryz.f62)) [((0 : Nat), AV.ints IntKind.u64 t0), ((7 : Nat), AV.ints IntKind.u64 t7), ((9 : Nat), AV.vec (nat_lit 0) (nat_lit 1)), ((10 : Nat), AV.vec (nat_lit 1) (nat_lit 1)),
  ((11 : Nat), AV.int IntKind.i64 t11), ((12 : Nat), AV.int IntKind.u64 t12), ((13 : Nat), AV.int IntKind.i64 t13)] [Blk.I 22 IntKind.u64 h0, Blk.I 22 IntKind.u64 h1] = r3DivMod_L24 k t0 t7 t11 t12 t13 h0 h1) ∧ (∀ (t0 : List Int) (t7 : List Int) (t11 : Int) (t15 : Int) (t16 : Int) (h0 : List Int) (h1 : List Int), evK r3DivMod_E r3DivMod_h 3000 k (todoOf 40 (bodyOf Go.Proofs.Tryz.f62)) [((0 : Nat), AV.ints IntKind.u64 t0), ((7 : Nat), AV.ints IntKind.u64 t7), ((9 : Nat), AV.vec (nat_lit 0) (nat_lit 1)), ((10 : Nat), AV.vec (nat_lit 1) (nat_lit 1)),
  ((11 : Nat), AV.int IntKind.i64 t11), ((15 : Nat), AV.int IntKind.u64 t15), ((16 : Nat), AV.int IntKind.i64 t16)] [Blk.I 22 IntKind.u64 h0, Blk.I 22 IntKind.u64 h1] = r3DivMod_L40 k t0 t7 t11 t15 t16 h0 h1)
  | 0 => by
    refine ⟨?_, ?_, ?_⟩ <;> intros <;> rfl
  | k + 1 => by
    have ih := r3DivMod_k k
    refine ⟨?_, ?_, ?_⟩ <;> intros
    · exact ((r3DivMod_s16 _ _ _ _ _ _).trans (by simp only [ih] <;> rfl))
    · exact ((r3DivMod_s24 _ _ _ _ _ _ _ _).trans (by simp only [ih] <;> rfl))
    · exact ((r3DivMod_s40 _ _ _ _ _ _ _ _).trans (by simp only [ih] <;> rfl))
theorem r3DivMod_ev (k : Nat) (a : List Int) (b : List Int) : evM r3DivMod_E r3DivMod_h 3000 k [.code (bodyOf Go.Proofs.Tryz.f62)] (T0 0 [.ints .u64 a, .ints .u64 b]) [] = r3DivMod_b0 (r3DivMod_L16 k) (r3DivMod_L24 k) (r3DivMod_L40 k) a b := by
  refine (r3DivMod_s0 _ a b).trans ?_
  simp only [r3DivMod_k k] <;> rfl
end
end Go.RX.S
