/- What functions compute, printed. -/
import Derived.Test.YtandibmpaamfbaaTf
set_option linter.unusedVariables false
set_option linter.unusedSimpArgs false
namespace Go.RX.S
open Go Go.RX
noncomputable section
/-! ### plumb/plumbref03.at -/
def r3at_h : Nat → Option Head := hintOf []
def r3at_b0  (a : List Int) (b : Int) : Option (Int) :=
  bif decide (b < (↑(List.length a) : Int)) then bif inRange b (List.length a) then some (rdI a b) else none else some (0 : Int)
noncomputable def r3at_E : Env (dens [.int .u64]) := envOf S.tab [] Go.Proofs.Try.f130 [4] [.int .u64]
theorem r3at_s0 (r : Rec (dens [.int .u64])) (a : List Int) (b : Int) : evT r3at_E r3at_h r 3000 false [.code (bodyOf Go.Proofs.Try.f130)] (T0 0 [.ints .u64 a, .int .i64 b]) [] = r3at_b0  a b := by kernel_rfl
theorem r3at_ev (k : Nat) (a : List Int) (b : Int) : evM r3at_E r3at_h 3000 k [.code (bodyOf Go.Proofs.Try.f130)] (T0 0 [.ints .u64 a, .int .i64 b]) [] = r3at_b0  a b := by
  exact r3at_s0 _ a b

/-! ### plumb/plumbref03.Bit -/
def r3Bit_h : Nat → Option Head := hintOf []
def r3Bit_b0  (a : List Int) (b : Int) : Option (Int) :=
  Option.bind (r3atF (a, divI IntKind.i64 b (64 : Int))) fun t => bif decide ((0 : Int) ≤ remI b (64 : Int)) then some (andI IntKind.u64 (shrI IntKind.u64 t (remI b (64 : Int))) (1 : Int)) else none
noncomputable def r3Bit_E : Env (dens [.int .u64]) := envOf S.tab [(130, mkF [.sl (.int .u64), .int .i64] [.int .u64] r3atF)] Go.Proofs.Try.f128 [4] [.int .u64]
theorem r3Bit_s0 (r : Rec (dens [.int .u64])) (a : List Int) (b : Int) : evT r3Bit_E r3Bit_h r 3000 false [.code (bodyOf Go.Proofs.Try.f128)] (T0 0 [.ints .u64 a, .int .i64 b]) [] = r3Bit_b0  a b := by kernel_rfl
theorem r3Bit_ev (k : Nat) (a : List Int) (b : Int) : evM r3Bit_E r3Bit_h 3000 k [.code (bodyOf Go.Proofs.Try.f128)] (T0 0 [.ints .u64 a, .int .i64 b]) [] = r3Bit_b0  a b := by
  exact r3Bit_s0 _ a b

/-! ### plumb/plumbref03.Cmp -/
def r3Cmp_h : Nat → Option Head := hintOf [(10, ⟨[(0, .same), (1, .same), (6, .same)], 0⟩)]
def r3Cmp_b0 (l10 : List Int → List Int → Int → Option Int) (a : List Int) (b : List Int) : Option (Int) :=
  bif decide ((↑(List.length b) : Int) > (↑(List.length a) : Int)) then l10 a b (subI IntKind.i64 (↑(List.length b) : Int) (1 : Int)) else l10 a b (subI IntKind.i64 (↑(List.length a) : Int) (1 : Int))
def r3Cmp_b10 (l10 : List Int → List Int → Int → Option Int) (t0 : List Int) (t1 : List Int) (t6 : Int) : Option (Int) :=
  bif decide (t6 ≥ (0 : Int)) then
  Option.bind (r3atF (t0, t6)) fun t =>
    Option.bind (r3atF (t1, t6)) fun t_1 =>
      bif decide (t < t_1) then some (-1 : Int)
      else Option.bind (r3atF (t0, t6)) fun t => Option.bind (r3atF (t1, t6)) fun t_2 => bif decide (t > t_2) then some (1 : Int) else l10 t0 t1 (subI IntKind.i64 t6 (1 : Int))
else some (0 : Int)
mutual
def r3Cmp_L10 : Nat → (List Int) → (List Int) → Int → Option (Int)
  | 0, _, _, _ => none
  | k + 1, t0, t1, t6 => r3Cmp_b10 (r3Cmp_L10 k) t0 t1 t6
end
noncomputable def r3Cmp_E : Env (dens [.int .i64]) := envOf S.tab [(130, mkF [.sl (.int .u64), .int .i64] [.int .u64] r3atF)] Go.Proofs.Try.f129 [4] [.int .i64]
theorem r3Cmp_s0 (r : Rec (dens [.int .i64])) (a : List Int) (b : List Int) : evT r3Cmp_E r3Cmp_h r 3000 false [.code (bodyOf Go.Proofs.Try.f129)] (T0 0 [.ints .u64 a, .ints .u64 b]) [] = r3Cmp_b0 (fun t0 t1 t6 => r (todoOf 10 (bodyOf Go.Proofs.Try.f129)) [((0 : Nat), AV.ints IntKind.u64 t0), ((1 : Nat), AV.ints IntKind.u64 t1), ((6 : Nat), AV.int IntKind.i64 t6)] []) a b := by kernel_rfl
theorem r3Cmp_s10 (r : Rec (dens [.int .i64])) (t0 : List Int) (t1 : List Int) (t6 : Int) : evT r3Cmp_E r3Cmp_h r 3000 true (todoOf 10 (bodyOf Go.Proofs.Try.f129)) [((0 : Nat), AV.ints IntKind.u64 t0), ((1 : Nat), AV.ints IntKind.u64 t1), ((6 : Nat), AV.int IntKind.i64 t6)] [] = r3Cmp_b10 (fun t0 t1 t6 => r (todoOf 10 (bodyOf Go.Proofs.Try.f129)) [((0 : Nat), AV.ints IntKind.u64 t0), ((1 : Nat), AV.ints IntKind.u64 t1), ((6 : Nat), AV.int IntKind.i64 t6)] []) t0 t1 t6 := by kernel_rfl
theorem r3Cmp_k : ∀ k, (∀ (t0 : List Int) (t1 : List Int) (t6 : Int), evK r3Cmp_E r3Cmp_h 3000 k (todoOf 10 (bodyOf Go.Proofs.Try.f129)) [((0 : Nat), AV.ints IntKind.u64 t0), ((1 : Nat), AV.ints IntKind.u64 t1), ((6 : Nat), AV.int IntKind.i64 t6)] [] = r3Cmp_L10 k t0 t1 t6)
  | 0 => by
    refine ?_ <;> intros <;> rfl
  | k + 1 => by
    have ih := r3Cmp_k k
    refine ?_ <;> intros
    · exact ((r3Cmp_s10 _ _ _ _).trans (by simp only [ih] <;> rfl))
theorem r3Cmp_ev (k : Nat) (a : List Int) (b : List Int) : evM r3Cmp_E r3Cmp_h 3000 k [.code (bodyOf Go.Proofs.Try.f129)] (T0 0 [.ints .u64 a, .ints .u64 b]) [] = r3Cmp_b0 (r3Cmp_L10 k) a b := by
  refine (r3Cmp_s0 _ a b).trans ?_
  simp only [r3Cmp_k k] <;> rfl

/-! ### plumb/plumbref03.Add -/
def r3Add_h : Nat → Option Head := hintOf [(14, ⟨[(0, .same), (1, .same), (5, .same), (6, .vec 36), (7, .same), (8, .same)], 1⟩)]
def r3Add_b0 (l14 : List Int → List Int → Int → Int → Int → List Int → Option (List Int)) (a : List Int) (b : List Int) : Option (List Int) :=
  bif decide ((↑(List.length b) : Int) > (↑(List.length a) : Int)) then l14 a b (↑(List.length b) : Int) (0 : Int) (0 : Int) [] else l14 a b (↑(List.length a) : Int) (0 : Int) (0 : Int) []
def r3Add_b14 (l14 : List Int → List Int → Int → Int → Int → List Int → Option (List Int)) (t0 : List Int) (t1 : List Int) (t5 : Int) (t7 : Int) (t8 : Int) (h0 : List Int) : Option (List Int) :=
  bif decide (t8 < t5) then
  Option.bind (r3atF (t0, t8)) fun t =>
    Option.bind (r3atF (t1, t8)) fun t_1 =>
      Option.bind (r3atF (t0, t8)) fun t_2 =>
        bif decide (addI IntKind.u64 t t_1 < t_2) then
          bif decide (addI IntKind.u64 (addI IntKind.u64 t t_1) t7 < addI IntKind.u64 t t_1) then
            bif decide ((↑(List.length (h0 ++ [addI IntKind.u64 (addI IntKind.u64 t t_1) t7])) : Int) * (8 : Int) ≤ (140737488355328 : Int)) then
              l14 t0 t1 t5 (1 : Int) (addI IntKind.i64 t8 (1 : Int)) (h0 ++ [addI IntKind.u64 (addI IntKind.u64 t t_1) t7])
            else none
          else
            bif decide ((↑(List.length (h0 ++ [addI IntKind.u64 (addI IntKind.u64 t t_1) t7])) : Int) * (8 : Int) ≤ (140737488355328 : Int)) then
              l14 t0 t1 t5 (1 : Int) (addI IntKind.i64 t8 (1 : Int)) (h0 ++ [addI IntKind.u64 (addI IntKind.u64 t t_1) t7])
            else none
        else
          bif decide (addI IntKind.u64 (addI IntKind.u64 t t_1) t7 < addI IntKind.u64 t t_1) then
            bif decide ((↑(List.length (h0 ++ [addI IntKind.u64 (addI IntKind.u64 t t_1) t7])) : Int) * (8 : Int) ≤ (140737488355328 : Int)) then
              l14 t0 t1 t5 (1 : Int) (addI IntKind.i64 t8 (1 : Int)) (h0 ++ [addI IntKind.u64 (addI IntKind.u64 t t_1) t7])
            else none
          else
            bif decide ((↑(List.length (h0 ++ [addI IntKind.u64 (addI IntKind.u64 t t_1) t7])) : Int) * (8 : Int) ≤ (140737488355328 : Int)) then
              l14 t0 t1 t5 (0 : Int) (addI IntKind.i64 t8 (1 : Int)) (h0 ++ [addI IntKind.u64 (addI IntKind.u64 t t_1) t7])
            else none
else bif decide ((↑(List.length (h0 ++ [t7])) : Int) * (8 : Int) ≤ (140737488355328 : Int)) then Option.bind (r3NormF (h0 ++ [t7])) fun t => some t else none
mutual
def r3Add_L14 : Nat → (List Int) → (List Int) → Int → Int → Int → (List Int) → Option (List Int)
  | 0, _, _, _, _, _, _ => none
  | k + 1, t0, t1, t5, t7, t8, h0 => r3Add_b14 (r3Add_L14 k) t0 t1 t5 t7 t8 h0
end
noncomputable def r3Add_E : Env (dens [.sl (.int .u64)]) := envOf S.tab [(130, mkF [.sl (.int .u64), .int .i64] [.int .u64] r3atF), (117, mkF [.sl (.int .u64)] [.sl (.int .u64)] r3NormF)] Go.Proofs.Try.f134 [4] [.sl (.int .u64)]
theorem r3Add_s0 (r : Rec (dens [.sl (.int .u64)])) (a : List Int) (b : List Int) : evT r3Add_E r3Add_h r 3000 false [.code (bodyOf Go.Proofs.Try.f134)] (T0 0 [.ints .u64 a, .ints .u64 b]) [] = r3Add_b0 (fun t0 t1 t5 t7 t8 h0 => r (todoOf 14 (bodyOf Go.Proofs.Try.f134)) [((0 : Nat), AV.ints IntKind.u64 t0), ((1 : Nat), AV.ints IntKind.u64 t1), ((5 : Nat), AV.int IntKind.i64 t5), ((6 : Nat), AV.vec (nat_lit 0) (nat_lit 1)), ((7 : Nat), AV.int IntKind.u64 t7),
  ((8 : Nat), AV.int IntKind.i64 t8)] [Blk.I (nat_lit 36) IntKind.u64 h0]) a b := by kernel_rfl
theorem r3Add_s14 (r : Rec (dens [.sl (.int .u64)])) (t0 : List Int) (t1 : List Int) (t5 : Int) (t7 : Int) (t8 : Int) (h0 : List Int) : evT r3Add_E r3Add_h r 3000 true (todoOf 14 (bodyOf Go.Proofs.Try.f134)) [((0 : Nat), AV.ints IntKind.u64 t0), ((1 : Nat), AV.ints IntKind.u64 t1), ((5 : Nat), AV.int IntKind.i64 t5), ((6 : Nat), AV.vec (nat_lit 0) (nat_lit 1)), ((7 : Nat), AV.int IntKind.u64 t7),
  ((8 : Nat), AV.int IntKind.i64 t8)] [Blk.I (nat_lit 36) IntKind.u64 h0] = r3Add_b14 (fun t0 t1 t5 t7 t8 h0 => r (todoOf 14 (bodyOf Go.Proofs.Try.f134)) [((0 : Nat), AV.ints IntKind.u64 t0), ((1 : Nat), AV.ints IntKind.u64 t1), ((5 : Nat), AV.int IntKind.i64 t5), ((6 : Nat), AV.vec (nat_lit 0) (nat_lit 1)), ((7 : Nat), AV.int IntKind.u64 t7),
  ((8 : Nat), AV.int IntKind.i64 t8)] [Blk.I (nat_lit 36) IntKind.u64 h0]) t0 t1 t5 t7 t8 h0 := by kernel_rfl
theorem r3Add_k : ∀ k, (∀ (t0 : List Int) (t1 : List Int) (t5 : Int) (t7 : Int) (t8 : Int) (h0 : List Int), evK r3Add_E r3Add_h 3000 k (todoOf 14 (bodyOf Go.Proofs.Try.f134)) [((0 : Nat), AV.ints IntKind.u64 t0), ((1 : Nat), AV.ints IntKind.u64 t1), ((5 : Nat), AV.int IntKind.i64 t5), ((6 : Nat), AV.vec (nat_lit 0) (nat_lit 1)), ((7 : Nat), AV.int IntKind.u64 t7),
  ((8 : Nat), AV.int IntKind.i64 t8)] [Blk.I (nat_lit 36) IntKind.u64 h0] = r3Add_L14 k t0 t1 t5 t7 t8 h0)
  | 0 => by
    refine ?_ <;> intros <;> rfl
  | k + 1 => by
    have ih := r3Add_k k
    refine ?_ <;> intros
    · exact ((r3Add_s14 _ _ _ _ _ _ _).trans (by simp only [ih] <;> rfl))
theorem r3Add_ev (k : Nat) (a : List Int) (b : List Int) : evM r3Add_E r3Add_h 3000 k [.code (bodyOf Go.Proofs.Try.f134)] (T0 0 [.ints .u64 a, .ints .u64 b]) [] = r3Add_b0 (r3Add_L14 k) a b := by
  refine (r3Add_s0 _ a b).trans ?_
  simp only [r3Add_k k] <;> rfl

/-! ### plumb/plumbref03.Sub -/
def r3Sub_h : Nat → Option Head := hintOf [(8, ⟨[(0, .same), (1, .same), (5, .vec 36), (6, .same), (7, .same)], 1⟩)]
def r3Sub_b0 (l8 : List Int → List Int → Int → Int → List Int → Option (List Int)) (a : List Int) (b : List Int) : Option (List Int) :=
  l8 a b (0 : Int) (0 : Int) []
def r3Sub_b8 (l8 : List Int → List Int → Int → Int → List Int → Option (List Int)) (t0 : List Int) (t1 : List Int) (t6 : Int) (t7 : Int) (h0 : List Int) : Option (List Int) :=
  bif decide (t7 < (↑(List.length t0) : Int)) then
  Option.bind (r3atF (t1, t7)) fun t =>
    bif inRange t7 (List.length t0) then
      bif inRange t7 (List.length t0) then
        bif decide (rdI t0 t7 < t) then
          bif decide ((↑(List.length (h0 ++ [subI IntKind.u64 (subI IntKind.u64 (rdI t0 t7) t) t6])) : Int) * (8 : Int) ≤ (140737488355328 : Int)) then
            l8 t0 t1 (1 : Int) (addI IntKind.i64 t7 (1 : Int)) (h0 ++ [subI IntKind.u64 (subI IntKind.u64 (rdI t0 t7) t) t6])
          else none
        else
          bif inRange t7 (List.length t0) then
            bif decide (rdI t0 t7 = t) then
              bif decide (t6 = (1 : Int)) then
                bif decide ((↑(List.length (h0 ++ [subI IntKind.u64 (subI IntKind.u64 (rdI t0 t7) t) t6])) : Int) * (8 : Int) ≤ (140737488355328 : Int)) then
                  l8 t0 t1 (1 : Int) (addI IntKind.i64 t7 (1 : Int)) (h0 ++ [subI IntKind.u64 (subI IntKind.u64 (rdI t0 t7) t) t6])
                else none
              else
                bif decide ((↑(List.length (h0 ++ [subI IntKind.u64 (subI IntKind.u64 (rdI t0 t7) t) t6])) : Int) * (8 : Int) ≤ (140737488355328 : Int)) then
                  l8 t0 t1 (0 : Int) (addI IntKind.i64 t7 (1 : Int)) (h0 ++ [subI IntKind.u64 (subI IntKind.u64 (rdI t0 t7) t) t6])
                else none
            else
              bif decide ((↑(List.length (h0 ++ [subI IntKind.u64 (subI IntKind.u64 (rdI t0 t7) t) t6])) : Int) * (8 : Int) ≤ (140737488355328 : Int)) then
                l8 t0 t1 (0 : Int) (addI IntKind.i64 t7 (1 : Int)) (h0 ++ [subI IntKind.u64 (subI IntKind.u64 (rdI t0 t7) t) t6])
              else none
          else none
      else none
    else none
else Option.bind (r3NormF h0) fun t => some t
mutual
def r3Sub_L8 : Nat → (List Int) → (List Int) → Int → Int → (List Int) → Option (List Int)
  | 0, _, _, _, _, _ => none
  | k + 1, t0, t1, t6, t7, h0 => r3Sub_b8 (r3Sub_L8 k) t0 t1 t6 t7 h0
end
noncomputable def r3Sub_E : Env (dens [.sl (.int .u64)]) := envOf S.tab [(130, mkF [.sl (.int .u64), .int .i64] [.int .u64] r3atF), (117, mkF [.sl (.int .u64)] [.sl (.int .u64)] r3NormF)] Go.Proofs.Try.f137 [4] [.sl (.int .u64)]
theorem r3Sub_s0 (r : Rec (dens [.sl (.int .u64)])) (a : List Int) (b : List Int) : evT r3Sub_E r3Sub_h r 3000 false [.code (bodyOf Go.Proofs.Try.f137)] (T0 0 [.ints .u64 a, .ints .u64 b]) [] = r3Sub_b0 (fun t0 t1 t6 t7 h0 => r (todoOf 8 (bodyOf Go.Proofs.Try.f137)) [((0 : Nat), AV.ints IntKind.u64 t0), ((1 : Nat), AV.ints IntKind.u64 t1), ((5 : Nat), AV.vec (nat_lit 0) (nat_lit 1)), ((6 : Nat), AV.int IntKind.u64 t6), ((7 : Nat), AV.int IntKind.i64 t7)] [Blk.I (nat_lit 36) IntKind.u64 h0]) a b := by kernel_rfl
theorem r3Sub_s8 (r : Rec (dens [.sl (.int .u64)])) (t0 : List Int) (t1 : List Int) (t6 : Int) (t7 : Int) (h0 : List Int) : evT r3Sub_E r3Sub_h r 3000 true (todoOf 8 (bodyOf Go.Proofs.Try.f137)) [((0 : Nat), AV.ints IntKind.u64 t0), ((1 : Nat), AV.ints IntKind.u64 t1), ((5 : Nat), AV.vec (nat_lit 0) (nat_lit 1)), ((6 : Nat), AV.int IntKind.u64 t6), ((7 : Nat), AV.int IntKind.i64 t7)] [Blk.I (nat_lit 36) IntKind.u64 h0] = r3Sub_b8 (fun t0 t1 t6 t7 h0 => r (todoOf 8 (bodyOf Go.Proofs.Try.f137)) [((0 : Nat), AV.ints IntKind.u64 t0), ((1 : Nat), AV.ints IntKind.u64 t1), ((5 : Nat), AV.vec (nat_lit 0) (nat_lit 1)), ((6 : Nat), AV.int IntKind.u64 t6), ((7 : Nat), AV.int IntKind.i64 t7)] [Blk.I (nat_lit 36) IntKind.u64 h0]) t0 t1 t6 t7 h0 := by kernel_rfl
theorem r3Sub_k : ∀ k, (∀ (t0 : List Int) (t1 : List Int) (t6 : Int) (t7 : Int) (h0 : List Int), evK r3Sub_E r3Sub_h 3000 k (todoOf 8 (bodyOf Go.Proofs.Try.f137)) [((0 : Nat), AV.ints IntKind.u64 t0), ((1 : Nat), AV.ints IntKind.u64 t1), ((5 : Nat), AV.vec (nat_lit 0) (nat_lit 1)), ((6 : Nat), AV.int IntKind.u64 t6), ((7 : Nat), AV.int IntKind.i64 t7)] [Blk.I (nat_lit 36) IntKind.u64 h0] = r3Sub_L8 k t0 t1 t6 t7 h0)
  | 0 => by
    refine ?_ <;> intros <;> rfl
  | k + 1 => by
    have ih := r3Sub_k k
    refine ?_ <;> intros
    · exact ((r3Sub_s8 _ _ _ _ _ _).trans (by simp only [ih] <;> rfl))
theorem r3Sub_ev (k : Nat) (a : List Int) (b : List Int) : evM r3Sub_E r3Sub_h 3000 k [.code (bodyOf Go.Proofs.Try.f137)] (T0 0 [.ints .u64 a, .ints .u64 b]) [] = r3Sub_b0 (r3Sub_L8 k) a b := by
  refine (r3Sub_s0 _ a b).trans ?_
  simp only [r3Sub_k k] <;> rfl

/-! ### plumb/plumbref03.Shl -/
def r3Shl_h : Nat → Option Head := hintOf [(6, ⟨[(0, .same), (1, .same), (5, .vec 36), (6, .same)], 1⟩), (18, ⟨[(0, .same), (5, .vec 36), (7, .same), (8, .same), (9, .same)], 1⟩)]
def r3Shl_b0 (l6 : List Int → Int → Int → List Int → Option (List Int)) (l18 : List Int → Int → Int → Int → List Int → Option (List Int)) (a : List Int) (b : Int) : Option (List Int) :=
  l6 a b (0 : Int) []
def r3Shl_b6 (l6 : List Int → Int → Int → List Int → Option (List Int)) (l18 : List Int → Int → Int → Int → List Int → Option (List Int)) (t0 : List Int) (t1 : Int) (t6 : Int) (h0 : List Int) : Option (List Int) :=
  bif decide (t6 < divI IntKind.i64 t1 (64 : Int)) then
  bif decide ((↑(List.length (h0 ++ [(0 : Int)])) : Int) * (8 : Int) ≤ (140737488355328 : Int)) then l6 t0 t1 (addI IntKind.i64 t6 (1 : Int)) (h0 ++ [(0 : Int)]) else none
else l18 t0 (remI t1 (64 : Int)) (0 : Int) (0 : Int) h0
def r3Shl_b18 (l6 : List Int → Int → Int → List Int → Option (List Int)) (l18 : List Int → Int → Int → Int → List Int → Option (List Int)) (t0 : List Int) (t7 : Int) (t8 : Int) (t9 : Int) (h0 : List Int) : Option (List Int) :=
  bif decide (t9 < (↑(List.length t0) : Int)) then
  bif inRange t9 (List.length t0) then
    bif decide ((0 : Int) ≤ t7) then
      bif decide ((↑(List.length (h0 ++ [orI IntKind.u64 (shlI IntKind.u64 (rdI t0 t9) t7) t8])) : Int) * (8 : Int) ≤ (140737488355328 : Int)) then
        bif decide (t7 > (0 : Int)) then
          bif inRange t9 (List.length t0) then
            bif decide ((0 : Int) ≤ subI IntKind.i64 (64 : Int) t7) then
              l18 t0 t7 (shrI IntKind.u64 (rdI t0 t9) (subI IntKind.i64 (64 : Int) t7)) (addI IntKind.i64 t9 (1 : Int)) (h0 ++ [orI IntKind.u64 (shlI IntKind.u64 (rdI t0 t9) t7) t8])
            else none
          else none
        else l18 t0 t7 (0 : Int) (addI IntKind.i64 t9 (1 : Int)) (h0 ++ [orI IntKind.u64 (shlI IntKind.u64 (rdI t0 t9) t7) t8])
      else none
    else none
  else none
else bif decide ((↑(List.length (h0 ++ [t8])) : Int) * (8 : Int) ≤ (140737488355328 : Int)) then Option.bind (r3NormF (h0 ++ [t8])) fun t => some t else none
mutual
def r3Shl_L6 : Nat → (List Int) → Int → Int → (List Int) → Option (List Int)
  | 0, _, _, _, _ => none
  | k + 1, t0, t1, t6, h0 => r3Shl_b6 (r3Shl_L6 k) (r3Shl_L18 k) t0 t1 t6 h0
def r3Shl_L18 : Nat → (List Int) → Int → Int → Int → (List Int) → Option (List Int)
  | 0, _, _, _, _, _ => none
  | k + 1, t0, t7, t8, t9, h0 => r3Shl_b18 (r3Shl_L6 k) (r3Shl_L18 k) t0 t7 t8 t9 h0
end
noncomputable def r3Shl_E : Env (dens [.sl (.int .u64)]) := envOf S.tab [(117, mkF [.sl (.int .u64)] [.sl (.int .u64)] r3NormF)] Go.Proofs.Try.f135 [4] [.sl (.int .u64)]
theorem r3Shl_s0 (r : Rec (dens [.sl (.int .u64)])) (a : List Int) (b : Int) : evT r3Shl_E r3Shl_h r 3000 false [.code (bodyOf Go.Proofs.Try.f135)] (T0 0 [.ints .u64 a, .int .i64 b]) [] = r3Shl_b0 (fun t0 t1 t6 h0 => r (todoOf 6 (bodyOf Go.Proofs.Try.f135)) [((0 : Nat), AV.ints IntKind.u64 t0), ((1 : Nat), AV.int IntKind.i64 t1), ((5 : Nat), AV.vec (nat_lit 0) (nat_lit 1)), ((6 : Nat), AV.int IntKind.i64 t6)] [Blk.I (nat_lit 36) IntKind.u64 h0]) (fun t0 t7 t8 t9 h0 => r (todoOf 18 (bodyOf Go.Proofs.Try.f135)) [((0 : Nat), AV.ints IntKind.u64 t0), ((5 : Nat), AV.vec (nat_lit 0) (nat_lit 1)), ((7 : Nat), AV.int IntKind.i64 t7), ((8 : Nat), AV.int IntKind.u64 t8), ((9 : Nat), AV.int IntKind.i64 t9)] [Blk.I (nat_lit 36) IntKind.u64 h0]) a b := by kernel_rfl
theorem r3Shl_s6 (r : Rec (dens [.sl (.int .u64)])) (t0 : List Int) (t1 : Int) (t6 : Int) (h0 : List Int) : evT r3Shl_E r3Shl_h r 3000 true (todoOf 6 (bodyOf Go.Proofs.Try.f135)) [((0 : Nat), AV.ints IntKind.u64 t0), ((1 : Nat), AV.int IntKind.i64 t1), ((5 : Nat), AV.vec (nat_lit 0) (nat_lit 1)), ((6 : Nat), AV.int IntKind.i64 t6)] [Blk.I (nat_lit 36) IntKind.u64 h0] = r3Shl_b6 (fun t0 t1 t6 h0 => r (todoOf 6 (bodyOf Go.Proofs.Try.f135)) [((0 : Nat), AV.ints IntKind.u64 t0), ((1 : Nat), AV.int IntKind.i64 t1), ((5 : Nat), AV.vec (nat_lit 0) (nat_lit 1)), ((6 : Nat), AV.int IntKind.i64 t6)] [Blk.I (nat_lit 36) IntKind.u64 h0]) (fun t0 t7 t8 t9 h0 => r (todoOf 18 (bodyOf Go.Proofs.Try.f135)) [((0 : Nat), AV.ints IntKind.u64 t0), ((5 : Nat), AV.vec (nat_lit 0) (nat_lit 1)), ((7 : Nat), AV.int IntKind.i64 t7), ((8 : Nat), AV.int IntKind.u64 t8), ((9 : Nat), AV.int IntKind.i64 t9)] [Blk.I (nat_lit 36) IntKind.u64 h0]) t0 t1 t6 h0 := by kernel_rfl
theorem r3Shl_s18 (r : Rec (dens [.sl (.int .u64)])) (t0 : List Int) (t7 : Int) (t8 : Int) (t9 : Int) (h0 : List Int) : evT r3Shl_E r3Shl_h r 3000 true (todoOf 18 (bodyOf Go.Proofs.Try.f135)) [((0 : Nat), AV.ints IntKind.u64 t0), ((5 : Nat), AV.vec (nat_lit 0) (nat_lit 1)), ((7 : Nat), AV.int IntKind.i64 t7), ((8 : Nat), AV.int IntKind.u64 t8), ((9 : Nat), AV.int IntKind.i64 t9)] [Blk.I (nat_lit 36) IntKind.u64 h0] = r3Shl_b18 (fun t0 t1 t6 h0 => r (todoOf 6 (bodyOf Go.Proofs.Try.f135)) [((0 : Nat), AV.ints IntKind.u64 t0), ((1 : Nat), AV.int IntKind.i64 t1), ((5 : Nat), AV.vec (nat_lit 0) (nat_lit 1)), ((6 : Nat), AV.int IntKind.i64 t6)] [Blk.I (nat_lit 36) IntKind.u64 h0]) (fun t0 t7 t8 t9 h0 => r (todoOf 18 (bodyOf Go.Proofs.Try.f135)) [((0 : Nat), AV.ints IntKind.u64 t0), ((5 : Nat), AV.vec (nat_lit 0) (nat_lit 1)), ((7 : Nat), AV.int IntKind.i64 t7), ((8 : Nat), AV.int IntKind.u64 t8), ((9 : Nat), AV.int IntKind.i64 t9)] [Blk.I (nat_lit 36) IntKind.u64 h0]) t0 t7 t8 t9 h0 := by kernel_rfl
theorem r3Shl_k : ∀ k, (∀ (t0 : List Int) (t1 : Int) (t6 : Int) (h0 : List Int), evK r3Shl_E r3Shl_h 3000 k (todoOf 6 (bodyOf Go.Proofs.Try.f135)) [((0 : Nat), AV.ints IntKind.u64 t0), ((1 : Nat), AV.int IntKind.i64 t1), ((5 : Nat), AV.vec (nat_lit 0) (nat_lit 1)), ((6 : Nat), AV.int IntKind.i64 t6)] [Blk.I (nat_lit 36) IntKind.u64 h0] = r3Shl_L6 k t0 t1 t6 h0) ∧ (∀ (t0 : List Int) (t7 : Int) (t8 : Int) (t9 : Int) (h0 : List Int), evK r3Shl_E r3Shl_h 3000 k (todoOf 18 (bodyOf Go.Proofs.Try.f135)) [((0 : Nat), AV.ints IntKind.u64 t0), ((5 : Nat), AV.vec (nat_lit 0) (nat_lit 1)), ((7 : Nat), AV.int IntKind.i64 t7), ((8 : Nat), AV.int IntKind.u64 t8), ((9 : Nat), AV.int IntKind.i64 t9)] [Blk.I (nat_lit 36) IntKind.u64 h0] = r3Shl_L18 k t0 t7 t8 t9 h0)
  | 0 => by
    refine ⟨?_, ?_⟩ <;> intros <;> rfl
  | k + 1 => by
    have ih := r3Shl_k k
    refine ⟨?_, ?_⟩ <;> intros
    · exact ((r3Shl_s6 _ _ _ _ _).trans (by simp only [ih] <;> rfl))
    · exact ((r3Shl_s18 _ _ _ _ _ _).trans (by simp only [ih] <;> rfl))
theorem r3Shl_ev (k : Nat) (a : List Int) (b : Int) : evM r3Shl_E r3Shl_h 3000 k [.code (bodyOf Go.Proofs.Try.f135)] (T0 0 [.ints .u64 a, .int .i64 b]) [] = r3Shl_b0 (r3Shl_L6 k) (r3Shl_L18 k) a b := by
  refine (r3Shl_s0 _ a b).trans ?_
  simp only [r3Shl_k k] <;> rfl

/-! ### plumb/plumbref03.Word -/
def r3Word_h : Nat → Option Head := hintOf []
def r3Word_b0  (a : Int) : Option (List Int) :=
  Option.bind (r3NormF [a]) fun t => some t
noncomputable def r3Word_E : Env (dens [.sl (.int .u64)]) := envOf S.tab [(117, mkF [.sl (.int .u64)] [.sl (.int .u64)] r3NormF)] Go.Proofs.Try.f136 [2] [.sl (.int .u64)]
theorem r3Word_s0 (r : Rec (dens [.sl (.int .u64)])) (a : Int) : evT r3Word_E r3Word_h r 3000 false [.code (bodyOf Go.Proofs.Try.f136)] (T0 0 [.int .u64 a]) [] = r3Word_b0  a := by kernel_rfl
theorem r3Word_ev (k : Nat) (a : Int) : evM r3Word_E r3Word_h 3000 k [.code (bodyOf Go.Proofs.Try.f136)] (T0 0 [.int .u64 a]) [] = r3Word_b0  a := by
  exact r3Word_s0 _ a

/-! ### plumb/plumbref03.DivMod -/
def r3DivMod_h : Nat → Option Head := hintOf [(16, ⟨[(0, .same), (7, .same), (9, .same), (10, .same), (11, .same)], 2⟩), (24, ⟨[(0, .same), (7, .same), (9, .same), (10, .same), (11, .same), (12, .same), (13, .same)], 2⟩), (40, ⟨[(0, .same), (7, .same), (9, .same), (10, .same), (11, .same), (15, .same), (16, .same)], 2⟩)]
def r3DivMod_b0 (l16 : List Int → List Int → Int → List Int → List Int → Option (List Int × List Int × Int)) (l24 : List Int → List Int → Int → Int → Int → List Int → List Int → Option (List Int × List Int × Int)) (l40 : List Int → List Int → Int → Int → Int → List Int → List Int → Option (List Int × List Int × Int)) (a : List Int) (b : List Int) : Option (List Int × List Int × Int) :=
  Option.bind (r3NormF b) fun t =>
  bif decide ((↑(List.length t) : Int) = (0 : Int)) then some ([], [], (30 : Int))
  else
    Option.bind (r3BitsF a) fun t_1 =>
      bif
          bif decide ((0 : Int) ≤ addI IntKind.i64 (divI IntKind.i64 t_1 (64 : Int)) (1 : Int)) then
            decide (addI IntKind.i64 (divI IntKind.i64 t_1 (64 : Int)) (1 : Int) * (8 : Int) ≤ (281474976710656 : Int))
          else false then
        bif
            bif decide ((0 : Int) ≤ addI IntKind.i64 (↑(List.length t) : Int) (1 : Int)) then decide (addI IntKind.i64 (↑(List.length t) : Int) (1 : Int) * (8 : Int) ≤ (281474976710656 : Int))
            else false then
          l16 a t (subI IntKind.i64 t_1 (1 : Int)) (List.replicate (Int.toNat (addI IntKind.i64 (divI IntKind.i64 t_1 (64 : Int)) (1 : Int))) (0 : Int))
            (List.replicate (Int.toNat (addI IntKind.i64 (↑(List.length t) : Int) (1 : Int))) (0 : Int))
        else none
      else none
def r3DivMod_b16 (l16 : List Int → List Int → Int → List Int → List Int → Option (List Int × List Int × Int)) (l24 : List Int → List Int → Int → Int → Int → List Int → List Int → Option (List Int × List Int × Int)) (l40 : List Int → List Int → Int → Int → Int → List Int → List Int → Option (List Int × List Int × Int)) (t0 : List Int) (t7 : List Int) (t11 : Int) (h0 : List Int) (h1 : List Int) : Option (List Int × List Int × Int) :=
  bif decide (t11 ≥ (0 : Int)) then Option.bind (r3BitF (t0, t11)) fun t => l24 t0 t7 t11 t (0 : Int) h0 h1
else Option.bind (r3NormF h0) fun t => Option.bind (r3NormF h1) fun t_1 => some (t, t_1, (0 : Int))
def r3DivMod_b24 (l16 : List Int → List Int → Int → List Int → List Int → Option (List Int × List Int × Int)) (l24 : List Int → List Int → Int → Int → Int → List Int → List Int → Option (List Int × List Int × Int)) (l40 : List Int → List Int → Int → Int → Int → List Int → List Int → Option (List Int × List Int × Int)) (t0 : List Int) (t7 : List Int) (t11 : Int) (t12 : Int) (t13 : Int) (h0 : List Int) (h1 : List Int) : Option (List Int × List Int × Int) :=
  bif decide (t13 < (↑(List.length h1) : Int)) then
  bif inRange t13 (List.length h1) then
    bif inRange t13 (List.length h1) then
      bif inRange t13 (List.length h1) then
        l24 t0 t7 t11 (shrI IntKind.u64 (rdN h1 (Int.toNat t13)) (63 : Int)) (addI IntKind.i64 t13 (1 : Int)) h0
          (wrI h1 (Int.toNat t13) (orI IntKind.u64 (shlI IntKind.u64 (rdN h1 (Int.toNat t13)) (1 : Int)) t12))
      else none
    else none
  else none
else Option.bind (r3CmpF (h1, t7)) fun t => bif decide (t ≥ (0 : Int)) then l40 t0 t7 t11 (0 : Int) (0 : Int) h0 h1 else l16 t0 t7 (subI IntKind.i64 t11 (1 : Int)) h0 h1
def r3DivMod_b40 (l16 : List Int → List Int → Int → List Int → List Int → Option (List Int × List Int × Int)) (l24 : List Int → List Int → Int → Int → Int → List Int → List Int → Option (List Int × List Int × Int)) (l40 : List Int → List Int → Int → Int → Int → List Int → List Int → Option (List Int × List Int × Int)) (t0 : List Int) (t7 : List Int) (t11 : Int) (t15 : Int) (t16 : Int) (h0 : List Int) (h1 : List Int) : Option (List Int × List Int × Int) :=
  bif decide (t16 < (↑(List.length h1) : Int)) then
  Option.bind (r3atF (t7, t16)) fun t =>
    bif inRange t16 (List.length h1) then
      bif inRange t16 (List.length h1) then
        bif decide (rdN h1 (Int.toNat t16) < t) then
          l40 t0 t7 t11 (1 : Int) (addI IntKind.i64 t16 (1 : Int)) h0 (wrI h1 (Int.toNat t16) (subI IntKind.u64 (subI IntKind.u64 (rdN h1 (Int.toNat t16)) t) t15))
        else
          bif decide (rdN h1 (Int.toNat t16) = t) then
            bif decide (t15 = (1 : Int)) then l40 t0 t7 t11 (1 : Int) (addI IntKind.i64 t16 (1 : Int)) h0 (wrI h1 (Int.toNat t16) (subI IntKind.u64 (subI IntKind.u64 (rdN h1 (Int.toNat t16)) t) t15))
            else l40 t0 t7 t11 (0 : Int) (addI IntKind.i64 t16 (1 : Int)) h0 (wrI h1 (Int.toNat t16) (subI IntKind.u64 (subI IntKind.u64 (rdN h1 (Int.toNat t16)) t) t15))
          else l40 t0 t7 t11 (0 : Int) (addI IntKind.i64 t16 (1 : Int)) h0 (wrI h1 (Int.toNat t16) (subI IntKind.u64 (subI IntKind.u64 (rdN h1 (Int.toNat t16)) t) t15))
      else none
    else none
else
  bif inRange (divI IntKind.i64 t11 (64 : Int)) (List.length h0) then
    bif decide ((0 : Int) ≤ remI t11 (64 : Int)) then
      bif inRange (divI IntKind.i64 t11 (64 : Int)) (List.length h0) then
        l16 t0 t7 (subI IntKind.i64 t11 (1 : Int))
          (wrI h0 (Int.toNat (divI IntKind.i64 t11 (64 : Int))) (orI IntKind.u64 (rdN h0 (Int.toNat (divI IntKind.i64 t11 (64 : Int)))) (shlI IntKind.u64 (1 : Int) (remI t11 (64 : Int))))) h1
      else none
    else none
  else none
mutual
def r3DivMod_L16 : Nat → (List Int) → (List Int) → Int → (List Int) → (List Int) → Option (List Int × List Int × Int)
  | 0, _, _, _, _, _ => none
  | k + 1, t0, t7, t11, h0, h1 => r3DivMod_b16 (r3DivMod_L16 k) (r3DivMod_L24 k) (r3DivMod_L40 k) t0 t7 t11 h0 h1
def r3DivMod_L24 : Nat → (List Int) → (List Int) → Int → Int → Int → (List Int) → (List Int) → Option (List Int × List Int × Int)
  | 0, _, _, _, _, _, _, _ => none
  | k + 1, t0, t7, t11, t12, t13, h0, h1 => r3DivMod_b24 (r3DivMod_L16 k) (r3DivMod_L24 k) (r3DivMod_L40 k) t0 t7 t11 t12 t13 h0 h1
def r3DivMod_L40 : Nat → (List Int) → (List Int) → Int → Int → Int → (List Int) → (List Int) → Option (List Int × List Int × Int)
  | 0, _, _, _, _, _, _, _ => none
  | k + 1, t0, t7, t11, t15, t16, h0, h1 => r3DivMod_b40 (r3DivMod_L16 k) (r3DivMod_L24 k) (r3DivMod_L40 k) t0 t7 t11 t15 t16 h0 h1
end
noncomputable def r3DivMod_E : Env (dens [.sl (.int .u64), .sl (.int .u64), .int .i64]) := envOf S.tab [(117, mkF [.sl (.int .u64)] [.sl (.int .u64)] r3NormF), (118, mkF [.sl (.int .u64)] [.int .i64] r3BitsF), (128, mkF [.sl (.int .u64), .int .i64] [.int .u64] r3BitF), (129, mkF [.sl (.int .u64), .sl (.int .u64)] [.int .i64] r3CmpF), (130, mkF [.sl (.int .u64), .int .i64] [.int .u64] r3atF)] Go.Proofs.Try.f76 [4, 5, 6] [.sl (.int .u64), .sl (.int .u64), .int .i64]
theorem r3DivMod_s0 (r : Rec (dens [.sl (.int .u64), .sl (.int .u64), .int .i64])) (a : List Int) (b : List Int) : evT r3DivMod_E r3DivMod_h r 3000 false [.code (bodyOf Go.Proofs.Try.f76)] (T0 0 [.ints .u64 a, .ints .u64 b]) [] = r3DivMod_b0 (fun t0 t7 t11 h0 h1 => r (todoOf 16 (bodyOf Go.Proofs.Try.f76)) [((0 : Nat), AV.ints IntKind.u64 t0), ((7 : Nat), AV.ints IntKind.u64 t7), ((9 : Nat), AV.vec (nat_lit 0) (nat_lit 1)), ((10 : Nat), AV.vec (nat_lit 1) (nat_lit 1)),
  ((11 : Nat), AV.int IntKind.i64 t11)] [Blk.I (nat_lit 36) IntKind.u64 h0, Blk.I (nat_lit 36) IntKind.u64 h1]) (fun t0 t7 t11 t12 t13 h0 h1 => r (todoOf 24 (bodyOf Go.Proofs.Try.f76)) [((0 : Nat), AV.ints IntKind.u64 t0), ((7 : Nat), AV.ints IntKind.u64 t7), ((9 : Nat), AV.vec (nat_lit 0) (nat_lit 1)), ((10 : Nat), AV.vec (nat_lit 1) (nat_lit 1)),
  ((11 : Nat), AV.int IntKind.i64 t11), ((12 : Nat), AV.int IntKind.u64 t12), ((13 : Nat), AV.int IntKind.i64 t13)] [Blk.I (nat_lit 36) IntKind.u64 h0, Blk.I (nat_lit 36) IntKind.u64 h1]) (fun t0 t7 t11 t15 t16 h0 h1 => r (todoOf 40 (bodyOf Go.Proofs.Try.f76)) [((0 : Nat), AV.ints IntKind.u64 t0), ((7 : Nat), AV.ints IntKind.u64 t7), ((9 : Nat), AV.vec (nat_lit 0) (nat_lit 1)), ((10 : Nat), AV.vec (nat_lit 1) (nat_lit 1)),
  ((11 : Nat), AV.int IntKind.i64 t11), ((15 : Nat), AV.int IntKind.u64 t15), ((16 : Nat), AV.int IntKind.i64 t16)] [Blk.I (nat_lit 36) IntKind.u64 h0, Blk.I (nat_lit 36) IntKind.u64 h1]) a b := by kernel_rfl
theorem r3DivMod_s16 (r : Rec (dens [.sl (.int .u64), .sl (.int .u64), .int .i64])) (t0 : List Int) (t7 : List Int) (t11 : Int) (h0 : List Int) (h1 : List Int) : evT r3DivMod_E r3DivMod_h r 3000 true (todoOf 16 (bodyOf Go.Proofs.Try.f76)) [((0 : Nat), AV.ints IntKind.u64 t0), ((7 : Nat), AV.ints IntKind.u64 t7), ((9 : Nat), AV.vec (nat_lit 0) (nat_lit 1)), ((10 : Nat), AV.vec (nat_lit 1) (nat_lit 1)),
  ((11 : Nat), AV.int IntKind.i64 t11)] [Blk.I (nat_lit 36) IntKind.u64 h0, Blk.I (nat_lit 36) IntKind.u64 h1] = r3DivMod_b16 (fun t0 t7 t11 h0 h1 => r (todoOf 16 (bodyOf Go.Proofs.Try.f76)) [((0 : Nat), AV.ints IntKind.u64 t0), ((7 : Nat), AV.ints IntKind.u64 t7), ((9 : Nat), AV.vec (nat_lit 0) (nat_lit 1)), ((10 : Nat), AV.vec (nat_lit 1) (nat_lit 1)),
  ((11 : Nat), AV.int IntKind.i64 t11)] [Blk.I (nat_lit 36) IntKind.u64 h0, Blk.I (nat_lit 36) IntKind.u64 h1]) (fun t0 t7 t11 t12 t13 h0 h1 => r (todoOf 24 (bodyOf Go.Proofs.Try.f76)) [((0 : Nat), AV.ints IntKind.u64 t0), ((7 : Nat), AV.ints IntKind.u64 t7), ((9 : Nat), AV.vec (nat_lit 0) (nat_lit 1)), ((10 : Nat), AV.vec (nat_lit 1) (nat_lit 1)),
  ((11 : Nat), AV.int IntKind.i64 t11), ((12 : Nat), AV.int IntKind.u64 t12), ((13 : Nat), AV.int IntKind.i64 t13)] [Blk.I (nat_lit 36) IntKind.u64 h0, Blk.I (nat_lit 36) IntKind.u64 h1]) (fun t0 t7 t11 t15 t16 h0 h1 => r (todoOf 40 (bodyOf Go.Proofs.Try.f76)) [((0 : Nat), AV.ints IntKind.u64 t0), ((7 : Nat), AV.ints IntKind.u64 t7), ((9 : Nat), AV.vec (nat_lit 0) (nat_lit 1)), ((10 : Nat), AV.vec (nat_lit 1) (nat_lit 1)),
  ((11 : Nat), AV.int IntKind.i64 t11), ((15 : Nat), AV.int IntKind.u64 t15), ((16 : Nat), AV.int IntKind.i64 t16)] [Blk.I (nat_lit 36) IntKind.u64 h0, Blk.I (nat_lit 36) IntKind.u64 h1]) t0 t7 t11 h0 h1 := by kernel_rfl
theorem r3DivMod_s24 (r : Rec (dens [.sl (.int .u64), .sl (.int .u64), .int .i64])) (t0 : List Int) (t7 : List Int) (t11 : Int) (t12 : Int) (t13 : Int) (h0 : List Int) (h1 : List Int) : evT r3DivMod_E r3DivMod_h r 3000 true (todoOf 24 (bodyOf Go.Proofs.Try.f76)) [((0 : Nat), AV.ints IntKind.u64 t0), ((7 : Nat), AV.ints IntKind.u64 t7), ((9 : Nat), AV.vec (nat_lit 0) (nat_lit 1)), ((10 : Nat), AV.vec (nat_lit 1) (nat_lit 1)),
  ((11 : Nat), AV.int IntKind.i64 t11), ((12 : Nat), AV.int IntKind.u64 t12), ((13 : Nat), AV.int IntKind.i64 t13)] [Blk.I (nat_lit 36) IntKind.u64 h0, Blk.I (nat_lit 36) IntKind.u64 h1] = r3DivMod_b24 (fun t0 t7 t11 h0 h1 => r (todoOf 16 (bodyOf Go.Proofs.Try.f76)) [((0 : Nat), AV.ints IntKind.u64 t0), ((7 : Nat), AV.ints IntKind.u64 t7), ((9 : Nat), AV.vec (nat_lit 0) (nat_lit 1)), ((10 : Nat), AV.vec (nat_lit 1) (nat_lit 1)),
  ((11 : Nat), AV.int IntKind.i64 t11)] [Blk.I (nat_lit 36) IntKind.u64 h0, Blk.I (nat_lit 36) IntKind.u64 h1]) (fun t0 t7 t11 t12 t13 h0 h1 => r (todoOf 24 (bodyOf Go.Proofs.Try.f76)) [((0 : Nat), AV.ints IntKind.u64 t0), ((7 : Nat), AV.ints IntKind.u64 t7), ((9 : Nat), AV.vec (nat_lit 0) (nat_lit 1)), ((10 : Nat), AV.vec (nat_lit 1) (nat_lit 1)),
  ((11 : Nat), AV.int IntKind.i64 t11), ((12 : Nat), AV.int IntKind.u64 t12), ((13 : Nat), AV.int IntKind.i64 t13)] [Blk.I (nat_lit 36) IntKind.u64 h0, Blk.I (nat_lit 36) IntKind.u64 h1]) (fun t0 t7 t11 t15 t16 h0 h1 => r (todoOf 40 (bodyOf Go.Proofs.Try.f76)) [((0 : Nat), AV.ints IntKind.u64 t0), ((7 : Nat), AV.ints IntKind.u64 t7), ((9 : Nat), AV.vec (nat_lit 0) (nat_lit 1)), ((10 : Nat), AV.vec (nat_lit 1) (nat_lit 1)),
  ((11 : Nat), AV.int IntKind.i64 t11), ((15 : Nat), AV.int IntKind.u64 t15), ((16 : Nat), AV.int IntKind.i64 t16)] [Blk.I (nat_lit 36) IntKind.u64 h0, Blk.I (nat_lit 36) IntKind.u64 h1]) t0 t7 t11 t12 t13 h0 h1 := by kernel_rfl
theorem r3DivMod_s40 (r : Rec (dens [.sl (.int .u64), .sl (.int .u64), .int .i64])) (t0 : List Int) (t7 : List Int) (t11 : Int) (t15 : Int) (t16 : Int) (h0 : List Int) (h1 : List Int) : evT r3DivMod_E r3DivMod_h r 3000 true (todoOf 40 (bodyOf Go.Proofs.Try.f76)) [((0 : Nat), AV.ints IntKind.u64 t0), ((7 : Nat), AV.ints IntKind.u64 t7), ((9 : Nat), AV.vec (nat_lit 0) (nat_lit 1)), ((10 : Nat), AV.vec (nat_lit 1) (nat_lit 1)),
  ((11 : Nat), AV.int IntKind.i64 t11), ((15 : Nat), AV.int IntKind.u64 t15), ((16 : Nat), AV.int IntKind.i64 t16)] [Blk.I (nat_lit 36) IntKind.u64 h0, Blk.I (nat_lit 36) IntKind.u64 h1] = r3DivMod_b40 (fun t0 t7 t11 h0 h1 => r (todoOf 16 (bodyOf Go.Proofs.Try.f76)) [((0 : Nat), AV.ints IntKind.u64 t0), ((7 : Nat), AV.ints IntKind.u64 t7), ((9 : Nat), AV.vec (nat_lit 0) (nat_lit 1)), ((10 : Nat), AV.vec (nat_lit 1) (nat_lit 1)),
  ((11 : Nat), AV.int IntKind.i64 t11)] [Blk.I (nat_lit 36) IntKind.u64 h0, Blk.I (nat_lit 36) IntKind.u64 h1]) (fun t0 t7 t11 t12 t13 h0 h1 => r (todoOf 24 (bodyOf Go.Proofs.Try.f76)) [((0 : Nat), AV.ints IntKind.u64 t0), ((7 : Nat), AV.ints IntKind.u64 t7), ((9 : Nat), AV.vec (nat_lit 0) (nat_lit 1)), ((10 : Nat), AV.vec (nat_lit 1) (nat_lit 1)),
  ((11 : Nat), AV.int IntKind.i64 t11), ((12 : Nat), AV.int IntKind.u64 t12), ((13 : Nat), AV.int IntKind.i64 t13)] [Blk.I (nat_lit 36) IntKind.u64 h0, Blk.I (nat_lit 36) IntKind.u64 h1]) (fun t0 t7 t11 t15 t16 h0 h1 => r (todoOf 40 (bodyOf Go.Proofs.Try.f76)) [((0 : Nat), AV.ints IntKind.u64 t0), ((7 : Nat), AV.ints IntKind.u64 t7), ((9 : Nat), AV.vec (nat_lit 0) (nat_lit 1)), ((10 : Nat), AV.vec (nat_lit 1) (nat_lit 1)),
  ((11 : Nat), AV.int IntKind.i64 t11), ((15 : Nat), AV.int IntKind.u64 t15), ((16 : Nat), AV.int IntKind.i64 t16)] [Blk.I (nat_lit 36) IntKind.u64 h0, Blk.I (nat_lit 36) IntKind.u64 h1]) t0 t7 t11 t15 t16 h0 h1 := by kernel_rfl
theorem r3DivMod_k : ∀ k, (∀ (t0 : List Int) (t7 : List Int) (t11 : Int) (h0 : List Int) (h1 : List Int), evK r3DivMod_E r3DivMod_h 3000 k (todoOf 16 (bodyOf Go.Proofs.Try.f76)) [((0 : Nat), AV.ints IntKind.u64 t0), ((7 : Nat), AV.ints IntKind.u64 t7), ((9 : Nat), AV.vec (nat_lit 0) (nat_lit 1)), ((10 : Nat), AV.vec (nat_lit 1) (nat_lit 1)),
  ((11 : Nat), AV.int IntKind.i64 t11)] [Blk.I (nat_lit 36) IntKind.u64 h0, Blk.I (nat_lit 36) IntKind.u64 h1] = r3DivMod_L16 k t0 t7 t11 h0 h1) ∧ (∀ (t0 : List Int) (t7 : List Int) (t11 : Int) (t12 : Int) (t13 : Int) (h0 : List Int) (h1 : List Int), evK r3DivMod_E r3DivMod_h 3000 k (todoOf 24 (bodyOf Go.Proofs.Try.f76)) [((0 : Nat), AV.ints IntKind.u64 t0), ((7 : Nat), AV.ints IntKind.u64 t7), ((9 : Nat), AV.vec (nat_lit 0) (nat_lit 1)), ((10 : Nat), AV.vec (nat_lit 1) (nat_lit 1)),
  ((11 : Nat), AV.int IntKind.i64 t11), ((12 : Nat), AV.int IntKind.u64 t12), ((13 : Nat), AV.int IntKind.i64 t13)] [Blk.I (nat_lit 36) IntKind.u64 h0, Blk.I (nat_lit 36) IntKind.u64 h1] = r3DivMod_L24 k t0 t7 t11 t12 t13 h0 h1) ∧ (∀ (t0 : List Int) (t7 : List Int) (t11 : Int) (t15 : Int) (t16 : Int) (h0 : List Int) (h1 : List Int), evK r3DivMod_E r3DivMod_h 3000 k (todoOf 40 (bodyOf Go.Proofs.Try.f76)) [((0 : Nat), AV.ints IntKind.u64 t0), ((7 : Nat), AV.ints IntKind.u64 t7), ((9 : Nat), AV.vec (nat_lit 0) (nat_lit 1)), ((10 : Nat), AV.vec (nat_lit 1) (nat_lit 1)),
  ((11 : Nat), AV.int IntKind.i64 t11), ((15 : Nat), AV.int IntKind.u64 t15), ((16 : Nat), AV.int IntKind.i64 t16)] [Blk.I (nat_lit 36) IntKind.u64 h0, Blk.I (nat_lit 36) IntKind.u64 h1] = r3DivMod_L40 k t0 t7 t11 t15 t16 h0 h1)
  | 0 => by
    refine ⟨?_, ?_, ?_⟩ <;> intros <;> rfl
  | k + 1 => by
    have ih := r3DivMod_k k
    refine ⟨?_, ?_, ?_⟩ <;> intros
    · exact ((r3DivMod_s16 _ _ _ _ _ _).trans (by simp only [ih] <;> rfl))
    · exact ((r3DivMod_s24 _ _ _ _ _ _ _ _).trans (by simp only [ih] <;> rfl))
    · exact ((r3DivMod_s40 _ _ _ _ _ _ _ _).trans (by simp only [ih] <;> rfl))
theorem r3DivMod_ev (k : Nat) (a : List Int) (b : List Int) : evM r3DivMod_E r3DivMod_h 3000 k [.code (bodyOf Go.Proofs.Try.f76)] (T0 0 [.ints .u64 a, .ints .u64 b]) [] = r3DivMod_b0 (r3DivMod_L16 k) (r3DivMod_L24 k) (r3DivMod_L40 k) a b := by
  refine (r3DivMod_s0 _ a b).trans ?_
  simp only [r3DivMod_k k] <;> rfl

/-! ### plumb/plumbref03.Small -/
def r3Small_h : Nat → Option Head := hintOf []
def r3Small_b0  (a : List Int) (b : Int) : Option (List Int × Int × Int) :=
  Option.bind (r3DivModF (a, [b])) fun t => Option.bind (r3atF ((Prod.snd t).1, (0 : Int))) fun t_1 => some (t.1, t_1, (Prod.snd t).2)
noncomputable def r3Small_E : Env (dens [.sl (.int .u64), .int .u64, .int .i64]) := envOf S.tab [(76, mkF [.sl (.int .u64), .sl (.int .u64)] [.sl (.int .u64), .sl (.int .u64), .int .i64] r3DivModF), (130, mkF [.sl (.int .u64), .int .i64] [.int .u64] r3atF)] Go.Proofs.Try.f78 [4, 5, 6] [.sl (.int .u64), .int .u64, .int .i64]
theorem r3Small_s0 (r : Rec (dens [.sl (.int .u64), .int .u64, .int .i64])) (a : List Int) (b : Int) : evT r3Small_E r3Small_h r 3000 false [.code (bodyOf Go.Proofs.Try.f78)] (T0 0 [.ints .u64 a, .int .u64 b]) [] = r3Small_b0  a b := by kernel_rfl
theorem r3Small_ev (k : Nat) (a : List Int) (b : Int) : evM r3Small_E r3Small_h 3000 k [.code (bodyOf Go.Proofs.Try.f78)] (T0 0 [.ints .u64 a, .int .u64 b]) [] = r3Small_b0  a b := by
  exact r3Small_s0 _ a b

/-! ### plumb/plumbref03.Gcd -/
def r3Gcd_h : Nat → Option Head := hintOf [(6, ⟨[(5, .same), (6, .same)], 0⟩)]
def r3Gcd_b0 (l6 : List Int → List Int → Option (List Int)) (a : List Int) (b : List Int) : Option (List Int) :=
  Option.bind (r3NormF a) fun t => Option.bind (r3NormF b) fun t_1 => l6 t t_1
def r3Gcd_b6 (l6 : List Int → List Int → Option (List Int)) (t5 : List Int) (t6 : List Int) : Option (List Int) :=
  bif decide ((↑(List.length t6) : Int) > (0 : Int)) then Option.bind (r3DivModF (t5, t6)) fun t => l6 t6 (Prod.snd t).1 else some t5
mutual
def r3Gcd_L6 : Nat → (List Int) → (List Int) → Option (List Int)
  | 0, _, _ => none
  | k + 1, t5, t6 => r3Gcd_b6 (r3Gcd_L6 k) t5 t6
end
noncomputable def r3Gcd_E : Env (dens [.sl (.int .u64)]) := envOf S.tab [(117, mkF [.sl (.int .u64)] [.sl (.int .u64)] r3NormF), (76, mkF [.sl (.int .u64), .sl (.int .u64)] [.sl (.int .u64), .sl (.int .u64), .int .i64] r3DivModF)] Go.Proofs.Try.f80 [4] [.sl (.int .u64)]
theorem r3Gcd_s0 (r : Rec (dens [.sl (.int .u64)])) (a : List Int) (b : List Int) : evT r3Gcd_E r3Gcd_h r 3000 false [.code (bodyOf Go.Proofs.Try.f80)] (T0 0 [.ints .u64 a, .ints .u64 b]) [] = r3Gcd_b0 (fun t5 t6 => r (todoOf 6 (bodyOf Go.Proofs.Try.f80)) [((5 : Nat), AV.ints IntKind.u64 t5), ((6 : Nat), AV.ints IntKind.u64 t6)] []) a b := by kernel_rfl
theorem r3Gcd_s6 (r : Rec (dens [.sl (.int .u64)])) (t5 : List Int) (t6 : List Int) : evT r3Gcd_E r3Gcd_h r 3000 true (todoOf 6 (bodyOf Go.Proofs.Try.f80)) [((5 : Nat), AV.ints IntKind.u64 t5), ((6 : Nat), AV.ints IntKind.u64 t6)] [] = r3Gcd_b6 (fun t5 t6 => r (todoOf 6 (bodyOf Go.Proofs.Try.f80)) [((5 : Nat), AV.ints IntKind.u64 t5), ((6 : Nat), AV.ints IntKind.u64 t6)] []) t5 t6 := by kernel_rfl
theorem r3Gcd_k : ∀ k, (∀ (t5 : List Int) (t6 : List Int), evK r3Gcd_E r3Gcd_h 3000 k (todoOf 6 (bodyOf Go.Proofs.Try.f80)) [((5 : Nat), AV.ints IntKind.u64 t5), ((6 : Nat), AV.ints IntKind.u64 t6)] [] = r3Gcd_L6 k t5 t6)
  | 0 => by
    refine ?_ <;> intros <;> rfl
  | k + 1 => by
    have ih := r3Gcd_k k
    refine ?_ <;> intros
    · exact ((r3Gcd_s6 _ _ _).trans (by simp only [ih] <;> rfl))
theorem r3Gcd_ev (k : Nat) (a : List Int) (b : List Int) : evM r3Gcd_E r3Gcd_h 3000 k [.code (bodyOf Go.Proofs.Try.f80)] (T0 0 [.ints .u64 a, .ints .u64 b]) [] = r3Gcd_b0 (r3Gcd_L6 k) a b := by
  refine (r3Gcd_s0 _ a b).trans ?_
  simp only [r3Gcd_k k] <;> rfl

/-! ### plumb/plumbref03.Root -/
def r3Root_h : Nat → Option Head := hintOf [(8, ⟨[(0, .same), (4, .fit (.sl (.int .u64))), (5, .fit (.sl (.int .u64))), (6, .same)], 0⟩)]
def r3Root_b0 (l8 : List Int → List Int → List Int → Int → Option (List Int × Bool)) (a : List Int) : Option (List Int × Bool) :=
  Option.bind (r3BitsF a) fun t => l8 a [] [] (divI IntKind.i64 (addI IntKind.i64 t (1 : Int)) (2 : Int))
def r3Root_b8 (l8 : List Int → List Int → List Int → Int → Option (List Int × Bool)) (t0 : List Int) (t4 : List Int) (t5 : List Int) (t6 : Int) : Option (List Int × Bool) :=
  bif decide (t6 > (0 : Int)) then
  Option.bind (r3BitF (t0, subI IntKind.i64 (mulI IntKind.i64 (2 : Int) t6) (1 : Int))) fun t =>
    Option.bind (r3BitF (t0, subI IntKind.i64 (mulI IntKind.i64 (2 : Int) t6) (2 : Int))) fun t_1 =>
      Option.bind (r3ShlF (t5, (2 : Int))) fun t_2 =>
        Option.bind (r3WordF (orI IntKind.u64 (shlI IntKind.u64 t (1 : Int)) t_1)) fun t =>
          Option.bind (r3AddF (t_2, t)) fun t =>
            Option.bind (r3ShlF (t4, (2 : Int))) fun t_3 =>
              Option.bind (r3WordF (1 : Int)) fun t_4 =>
                Option.bind (r3AddF (t_3, t_4)) fun t_5 =>
                  Option.bind (r3ShlF (t4, (1 : Int))) fun t_6 =>
                    Option.bind (r3CmpF (t, t_5)) fun t_7 =>
                      bif decide (t_7 ≥ (0 : Int)) then
                        Option.bind (r3SubF (t, t_5)) fun t => Option.bind (r3WordF (1 : Int)) fun t_8 => Option.bind (r3AddF (t_6, t_8)) fun t_9 => l8 t0 t_9 t (subI IntKind.i64 t6 (1 : Int))
                      else l8 t0 t_6 t (subI IntKind.i64 t6 (1 : Int))
else some (t4, decide ((↑(List.length t5) : Int) = (0 : Int)))
mutual
def r3Root_L8 : Nat → (List Int) → (List Int) → (List Int) → Int → Option (List Int × Bool)
  | 0, _, _, _, _ => none
  | k + 1, t0, t4, t5, t6 => r3Root_b8 (r3Root_L8 k) t0 t4 t5 t6
end
noncomputable def r3Root_E : Env (dens [.sl (.int .u64), .bool]) := envOf S.tab [(118, mkF [.sl (.int .u64)] [.int .i64] r3BitsF), (128, mkF [.sl (.int .u64), .int .i64] [.int .u64] r3BitF), (134, mkF [.sl (.int .u64), .sl (.int .u64)] [.sl (.int .u64)] r3AddF), (135, mkF [.sl (.int .u64), .int .i64] [.sl (.int .u64)] r3ShlF), (136, mkF [.int .u64] [.sl (.int .u64)] r3WordF), (129, mkF [.sl (.int .u64), .sl (.int .u64)] [.int .i64] r3CmpF), (137, mkF [.sl (.int .u64), .sl (.int .u64)] [.sl (.int .u64)] r3SubF)] Go.Proofs.Try.f84 [2, 3] [.sl (.int .u64), .bool]
theorem r3Root_s0 (r : Rec (dens [.sl (.int .u64), .bool])) (a : List Int) : evT r3Root_E r3Root_h r 3000 false [.code (bodyOf Go.Proofs.Try.f84)] (T0 0 [.ints .u64 a]) [] = r3Root_b0 (fun t0 t4 t5 t6 => r (todoOf 8 (bodyOf Go.Proofs.Try.f84)) [((0 : Nat), AV.ints IntKind.u64 t0), ((4 : Nat), AV.ints IntKind.u64 t4), ((5 : Nat), AV.ints IntKind.u64 t5), ((6 : Nat), AV.int IntKind.i64 t6)] []) a := by kernel_rfl
theorem r3Root_s8 (r : Rec (dens [.sl (.int .u64), .bool])) (t0 : List Int) (t4 : List Int) (t5 : List Int) (t6 : Int) : evT r3Root_E r3Root_h r 3000 true (todoOf 8 (bodyOf Go.Proofs.Try.f84)) [((0 : Nat), AV.ints IntKind.u64 t0), ((4 : Nat), AV.ints IntKind.u64 t4), ((5 : Nat), AV.ints IntKind.u64 t5), ((6 : Nat), AV.int IntKind.i64 t6)] [] = r3Root_b8 (fun t0 t4 t5 t6 => r (todoOf 8 (bodyOf Go.Proofs.Try.f84)) [((0 : Nat), AV.ints IntKind.u64 t0), ((4 : Nat), AV.ints IntKind.u64 t4), ((5 : Nat), AV.ints IntKind.u64 t5), ((6 : Nat), AV.int IntKind.i64 t6)] []) t0 t4 t5 t6 := by kernel_rfl
theorem r3Root_k : ∀ k, (∀ (t0 : List Int) (t4 : List Int) (t5 : List Int) (t6 : Int), evK r3Root_E r3Root_h 3000 k (todoOf 8 (bodyOf Go.Proofs.Try.f84)) [((0 : Nat), AV.ints IntKind.u64 t0), ((4 : Nat), AV.ints IntKind.u64 t4), ((5 : Nat), AV.ints IntKind.u64 t5), ((6 : Nat), AV.int IntKind.i64 t6)] [] = r3Root_L8 k t0 t4 t5 t6)
  | 0 => by
    refine ?_ <;> intros <;> rfl
  | k + 1 => by
    have ih := r3Root_k k
    refine ?_ <;> intros
    · exact ((r3Root_s8 _ _ _ _ _).trans (by simp only [ih] <;> rfl))
theorem r3Root_ev (k : Nat) (a : List Int) : evM r3Root_E r3Root_h 3000 k [.code (bodyOf Go.Proofs.Try.f84)] (T0 0 [.ints .u64 a]) [] = r3Root_b0 (r3Root_L8 k) a := by
  refine (r3Root_s0 _ a).trans ?_
  simp only [r3Root_k k] <;> rfl

/-! ### plumb/plumbref03.Lowest -/
def r3Lowest_h : Nat → Option Head := hintOf []
def r3Lowest_b0  (a : List Int) (b : List Int) : Option (List Int × List Int) :=
  Option.bind (r3GcdF (a, b)) fun t =>
  bif decide ((↑(List.length t) : Int) = (0 : Int)) then some ([], []) else Option.bind (r3DivModF (a, t)) fun t_1 => Option.bind (r3DivModF (b, t)) fun t => some (t_1.1, t.1)
noncomputable def r3Lowest_E : Env (dens [.sl (.int .u64), .sl (.int .u64)]) := envOf S.tab [(80, mkF [.sl (.int .u64), .sl (.int .u64)] [.sl (.int .u64)] r3GcdF), (76, mkF [.sl (.int .u64), .sl (.int .u64)] [.sl (.int .u64), .sl (.int .u64), .int .i64] r3DivModF)] Go.Proofs.Try.f82 [4, 5] [.sl (.int .u64), .sl (.int .u64)]
theorem r3Lowest_s0 (r : Rec (dens [.sl (.int .u64), .sl (.int .u64)])) (a : List Int) (b : List Int) : evT r3Lowest_E r3Lowest_h r 3000 false [.code (bodyOf Go.Proofs.Try.f82)] (T0 0 [.ints .u64 a, .ints .u64 b]) [] = r3Lowest_b0  a b := by kernel_rfl
theorem r3Lowest_ev (k : Nat) (a : List Int) (b : List Int) : evM r3Lowest_E r3Lowest_h 3000 k [.code (bodyOf Go.Proofs.Try.f82)] (T0 0 [.ints .u64 a, .ints .u64 b]) [] = r3Lowest_b0  a b := by
  exact r3Lowest_s0 _ a b

/-! ### plumb/plumblaw03.QuotDivs -/
def QuotDivs_h : Nat → Option Head := hintOf []
def QuotDivs_b0  (a : List Int) (b : List Int) (c : Int) : Option (Bool) :=
  Option.bind (lentF a) fun t =>
  Option.bind (lentF b) fun t_1 =>
    bif bif decide ((0 : Int) ≤ (↑(List.length a) : Int)) then decide ((↑(List.length a) : Int) ≤ (↑(List.length t) : Int)) else false then
      bif bif decide ((0 : Int) ≤ (↑(List.length b) : Int)) then decide ((↑(List.length b) : Int) ≤ (↑(List.length t_1) : Int)) else false then
        Option.bind (DivModF (List.take (Int.toNat (↑(List.length a) : Int)) t, List.take (Int.toNat (↑(List.length b) : Int)) t_1)) fun t_2 =>
          Option.bind (r3DivModF (a, b)) fun t_3 =>
            Option.bind (sameF (t_2.1, t_3.1)) fun t_4 =>
              bif !t_4 then some false
              else
                Option.bind (sameF ((Prod.snd t_2).1, (Prod.snd t_3).1)) fun t_5 =>
                  bif !t_5 then some false
                  else
                    Option.bind (numF (Prod.snd t_2).2) fun t_6 =>
                      bif !decide (t_6 = (Prod.snd t_3).2) then some false
                      else
                        Option.bind (keptF (t, a)) fun t_7 =>
                          bif !t_7 then some false
                          else
                            Option.bind (keptF (t_1, b)) fun t_8 =>
                              bif !t_8 then some false
                              else
                                bif bif decide ((0 : Int) ≤ (↑(List.length a) : Int)) then decide ((↑(List.length a) : Int) ≤ (↑(List.length t) : Int)) else false then
                                  Option.bind (qSmallF (List.take (Int.toNat (↑(List.length a) : Int)) t, c)) fun t_9 =>
                                    Option.bind (r3SmallF (a, c)) fun t_10 =>
                                      Option.bind (sameF (t_9.1, t_10.1)) fun t_11 =>
                                        bif t_11 then
                                          bif decide ((Prod.snd t_9).1 = (Prod.snd t_10).1) then
                                            Option.bind (numF (Prod.snd t_9).2) fun t_12 => bif decide (t_12 = (Prod.snd t_10).2) then Option.bind (keptF (t, a)) fun t => some t else some false
                                          else some false
                                        else some false
                                else none
      else none
    else none
noncomputable def QuotDivs_E : Env (dens [.bool]) := envOf S.tab [(45, mkF [.sl (.int .u64)] [.sl (.int .u64)] lentF), (75, mkF [.sl (.int .u64), .sl (.int .u64)] [.sl (.int .u64), .sl (.int .u64), .int .i64] DivModF), (76, mkF [.sl (.int .u64), .sl (.int .u64)] [.sl (.int .u64), .sl (.int .u64), .int .i64] r3DivModF), (48, mkF [.sl (.int .u64), .sl (.int .u64)] [.bool] sameF), (49, mkF [.int .i64] [.int .i64] numF), (50, mkF [.sl (.int .u64), .sl (.int .u64)] [.bool] keptF), (77, mkF [.sl (.int .u64), .int .u64] [.sl (.int .u64), .int .u64, .int .i64] qSmallF), (78, mkF [.sl (.int .u64), .int .u64] [.sl (.int .u64), .int .u64, .int .i64] r3SmallF)] Go.Proofs.Try.f13 [6] [.bool]
theorem QuotDivs_s0 (r : Rec (dens [.bool])) (a : List Int) (b : List Int) (c : Int) : evT QuotDivs_E QuotDivs_h r 3000 false [.code (bodyOf Go.Proofs.Try.f13)] (T0 0 [.ints .u64 a, .ints .u64 b, .int .u64 c]) [] = QuotDivs_b0  a b c := by kernel_rfl
theorem QuotDivs_ev (k : Nat) (a : List Int) (b : List Int) (c : Int) : evM QuotDivs_E QuotDivs_h 3000 k [.code (bodyOf Go.Proofs.Try.f13)] (T0 0 [.ints .u64 a, .ints .u64 b, .int .u64 c]) [] = QuotDivs_b0  a b c := by
  exact QuotDivs_s0 _ a b c

/-! ### plumb/plumblaw03.QuotGcds -/
def QuotGcds_h : Nat → Option Head := hintOf []
def QuotGcds_b0  (a : List Int) (b : List Int) : Option (Bool) :=
  Option.bind (lentF a) fun t =>
  Option.bind (lentF b) fun t_1 =>
    bif bif decide ((0 : Int) ≤ (↑(List.length a) : Int)) then decide ((↑(List.length a) : Int) ≤ (↑(List.length t) : Int)) else false then
      bif bif decide ((0 : Int) ≤ (↑(List.length b) : Int)) then decide ((↑(List.length b) : Int) ≤ (↑(List.length t_1) : Int)) else false then
        Option.bind (GcdF (List.take (Int.toNat (↑(List.length a) : Int)) t, List.take (Int.toNat (↑(List.length b) : Int)) t_1)) fun t_2 =>
          Option.bind (r3GcdF (a, b)) fun t_3 =>
            Option.bind (sameF (t_2, t_3)) fun t_4 =>
              bif !t_4 then some false
              else
                Option.bind (keptF (t, a)) fun t_5 =>
                  bif !t_5 then some false
                  else
                    Option.bind (keptF (t_1, b)) fun t_6 =>
                      bif !t_6 then some false
                      else
                        bif bif decide ((0 : Int) ≤ (↑(List.length a) : Int)) then decide ((↑(List.length a) : Int) ≤ (↑(List.length t) : Int)) else false then
                          bif bif decide ((0 : Int) ≤ (↑(List.length b) : Int)) then decide ((↑(List.length b) : Int) ≤ (↑(List.length t_1) : Int)) else false then
                            Option.bind (LowestF (List.take (Int.toNat (↑(List.length a) : Int)) t, List.take (Int.toNat (↑(List.length b) : Int)) t_1)) fun t_7 =>
                              Option.bind (r3LowestF (a, b)) fun t_8 =>
                                bif bif decide ((0 : Int) ≤ (↑(List.length a) : Int)) then decide ((↑(List.length a) : Int) ≤ (↑(List.length t) : Int)) else false then
                                  Option.bind (RootF (List.take (Int.toNat (↑(List.length a) : Int)) t)) fun t_9 =>
                                    Option.bind (RootF a) fun t_10 =>
                                      Option.bind (sameF (t_7.1, t_8.1)) fun t_11 =>
                                        bif t_11 then
                                          Option.bind (sameF (t_7.2, t_8.2)) fun t_12 =>
                                            bif t_12 then
                                              Option.bind (sameF (t_9.1, t_10.1)) fun t_13 =>
                                                bif t_13 then
                                                  bif decide (t_9.2 = t_10.2) then Option.bind (keptF (t, a)) fun t => bif t then Option.bind (keptF (t_1, b)) fun t => some t else some false
                                                  else some false
                                                else some false
                                            else some false
                                        else some false
                                else none
                          else none
                        else none
      else none
    else none
noncomputable def QuotGcds_E : Env (dens [.bool]) := envOf S.tab [(45, mkF [.sl (.int .u64)] [.sl (.int .u64)] lentF), (79, mkF [.sl (.int .u64), .sl (.int .u64)] [.sl (.int .u64)] GcdF), (80, mkF [.sl (.int .u64), .sl (.int .u64)] [.sl (.int .u64)] r3GcdF), (48, mkF [.sl (.int .u64), .sl (.int .u64)] [.bool] sameF), (50, mkF [.sl (.int .u64), .sl (.int .u64)] [.bool] keptF), (81, mkF [.sl (.int .u64), .sl (.int .u64)] [.sl (.int .u64), .sl (.int .u64)] LowestF), (82, mkF [.sl (.int .u64), .sl (.int .u64)] [.sl (.int .u64), .sl (.int .u64)] r3LowestF), (83, mkF [.sl (.int .u64)] [.sl (.int .u64), .bool] RootF), (84, mkF [.sl (.int .u64)] [.sl (.int .u64), .bool] RootF)] Go.Proofs.Try.f14 [4] [.bool]
theorem QuotGcds_s0 (r : Rec (dens [.bool])) (a : List Int) (b : List Int) : evT QuotGcds_E QuotGcds_h r 3000 false [.code (bodyOf Go.Proofs.Try.f14)] (T0 0 [.ints .u64 a, .ints .u64 b]) [] = QuotGcds_b0  a b := by kernel_rfl
theorem QuotGcds_ev (k : Nat) (a : List Int) (b : List Int) : evM QuotGcds_E QuotGcds_h 3000 k [.code (bodyOf Go.Proofs.Try.f14)] (T0 0 [.ints .u64 a, .ints .u64 b]) [] = QuotGcds_b0  a b := by
  exact QuotGcds_s0 _ a b

end
end Go.RX.S
