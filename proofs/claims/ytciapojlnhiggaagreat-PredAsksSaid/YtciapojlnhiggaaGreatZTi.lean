/- What functions compute, printed. -/
import Derived.Test.YtciapojlnhiggaaGreatZTg
import Derived.Test.YtciapojlnhiggaaGreatZTf
set_option linter.unusedVariables false
set_option linter.unusedSimpArgs false
namespace Go.RX.S
open Go Go.RX
noncomputable section
def r3Gcd_h : Nat → Option Head := hintOf [(6, ⟨[(5, .same), (6, .same)], 0⟩)]
def r3Gcd_b0 (l6 : List Int → List Int → Option (List Int)) (a : List Int) (b : List Int) : Option (List Int) :=
  Option.bind (r3NormF a) fun t => Option.bind (r3NormF b) fun t_1 => l6 t t_1
def r3Gcd_b6 (l6 : List Int → List Int → Option (List Int)) (t5 : List Int) (t6 : List Int) : Option (List Int) :=
  bif decide ((↑(List.length t6) : Int) > (0 : Int)) then Option.bind (r3DivModF (t5, t6)) fun t => l6 t6 (Prod.snd t).1 else some t5
mutual
def r3Gcd_L6 : Nat → (List Int) → (List Int) → Option (List Int)
  | 0, _, _ => none
  | k + 1, t5, t6 => r3Gcd_b6 (r3Gcd_L6 k) t5 t6
end
noncomputable def r3Gcd_E : Env (dens [.sl (.int .u64)]) := envOf S.tab [(63, mkF [.sl (.int .u64)] [.sl (.int .u64)] r3NormF), (62, mkF [.sl (.int .u64), .sl (.int .u64)] [.sl (.int .u64), .sl (.int .u64), .int .i64] r3DivModF)] Go.Proofs.Tryz.f61 [4] [.sl (.int .u64)]
theorem r3Gcd_s0 (r : Rec (dens [.sl (.int .u64)])) (a : List Int) (b : List Int) : evT r3Gcd_E r3Gcd_h r 3000 false [.code (bodyOf Go.Proofs.Tryz.f61)] (T0 0 [.ints .u64 a, .ints .u64 b]) [] = r3Gcd_b0 (fun t5 t6 => r (todoOf 6 (bodyOf Go.Proofs.Tryz.f61)) [((5 : Nat), AV.ints IntKind.u64 t5), ((6 : Nat), AV.ints IntKind.u64 t6)] []) a b := by kernel_rfl
theorem r3Gcd_s6 (r : Rec (dens [.sl (.int .u64)])) (t5 : List Int) (t6 : List Int) : evT r3Gcd_E r3Gcd_h r 3000 true (todoOf 6 (bodyOf Go.Proofs.Tryz.f61)) [((5 : Nat), AV.ints IntKind.u64 t5), ((6 : Nat), AV.ints IntKind.u64 t6)] [] = r3Gcd_b6 (fun t5 t6 => r (todoOf 6 (bodyOf Go.Proofs.Tryz.f61)) [((5 : Nat), AV.ints IntKind.u64 t5), ((6 : Nat), AV.ints IntKind.u64 t6)] []) t5 t6 := by kernel_rfl
theorem r3Gcd_k : ∀ k, (∀ (t5 : List Int) (t6 : List Int), evK r3Gcd_E r3Gcd_h 3000 k (todoOf 6 (bodyOf Go.Proofs.Tryz.f61)) [((5 : Nat), AV.ints IntKind.u64 t5), ((6 : Nat), AV.ints IntKind.u64 t6)] [] = r3Gcd_L6 k t5 t6)
  | 0 => by
    refine ?_ <;> intros <;> rfl
  | k + 1 => by
    have ih := r3Gcd_k k
    refine ?_ <;> intros
    · exact ((r3Gcd_s6 _ _ _).trans (by simp only [ih] <;> rfl))
theorem r3Gcd_ev (k : Nat) (a : List Int) (b : List Int) : evM r3Gcd_E r3Gcd_h 3000 k [.code (bodyOf Go.Proofs.Tryz.f61)] (T0 0 [.ints .u64 a, .ints .u64 b]) [] = r3Gcd_b0 (r3Gcd_L6 k) a b := by
  refine (r3Gcd_s0 _ a b).trans ?_
  simp only [r3Gcd_k k] <;> rfl
def r3Lowest_h : Nat → Option Head := hintOf []
def r3Lowest_b0  (a : List Int) (b : List Int) : Option (List Int × List Int) :=
  Option.bind (r3GcdF (a, b)) fun t =>
  bif decide ((↑(List.length t) : Int) = (0 : Int)) then some ([], []) else Option.bind (r3DivModF (a, t)) fun t_1 => Option.bind (r3DivModF (b, t)) fun t => some (t_1.1, t.1)
noncomputable def r3Lowest_E : Env (dens [.sl (.int .u64), .sl (.int .u64)]) := envOf S.tab [(61, mkF [.sl (.int .u64), .sl (.int .u64)] [.sl (.int .u64)] r3GcdF), (62, mkF [.sl (.int .u64), .sl (.int .u64)] [.sl (.int .u64), .sl (.int .u64), .int .i64] r3DivModF)] Go.Proofs.Tryz.f30 [4, 5] [.sl (.int .u64), .sl (.int .u64)]
theorem r3Lowest_s0 (r : Rec (dens [.sl (.int .u64), .sl (.int .u64)])) (a : List Int) (b : List Int) : evT r3Lowest_E r3Lowest_h r 3000 false [.code (bodyOf Go.Proofs.Tryz.f30)] (T0 0 [.ints .u64 a, .ints .u64 b]) [] = r3Lowest_b0  a b := by kernel_rfl
theorem r3Lowest_ev (k : Nat) (a : List Int) (b : List Int) : evM r3Lowest_E r3Lowest_h 3000 k [.code (bodyOf Go.Proofs.Tryz.f30)] (T0 0 [.ints .u64 a, .ints .u64 b]) [] = r3Lowest_b0  a b := by
  exact r3Lowest_s0 _ a b
end
end Go.RX.S
