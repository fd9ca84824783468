/- What functions compute, printed. -/
import Derived.Test.YtciapojlnhiggaaGreatZTe
set_option linter.unusedVariables false
set_option linter.unusedSimpArgs false
namespace Go.RX.S
open Go Go.RX
noncomputable section
def Gcd_h : Nat → Option Head := hintOf [(4, ⟨[(0, .same), (1, .same)], 0⟩)]
def Gcd_b0 (l4 : List Int → List Int → Option (List Int)) (a : List Int) (b : List Int) : Option (List Int) :=
  Option.bind (nNormF a) fun t => Option.bind (nNormF b) fun t_1 => l4 t t_1
def Gcd_b4 (l4 : List Int → List Int → Option (List Int)) (t0 : List Int) (t1 : List Int) : Option (List Int) :=
  bif decide ((↑(List.length t1) : Int) > (0 : Int)) then Option.bind (DivModF (t0, t1)) fun t => l4 t1 (Prod.snd t).1 else some t0
mutual
def Gcd_L4 : Nat → (List Int) → (List Int) → Option (List Int)
  | 0, _, _ => none
  | k + 1, t0, t1 => Gcd_b4 (Gcd_L4 k) t0 t1
end
noncomputable def Gcd_E : Env (dens [.sl (.int .u64)]) := envOf S.tab [(98, mkZ [.sl (.int .u64)] .u64 nNormF), (115, mkF [.sl (.int .u64), .sl (.int .u64)] [.sl (.int .u64), .sl (.int .u64), .int .i64] DivModF)] Go.Proofs.Tryz.f105 [4] [.sl (.int .u64)]
theorem Gcd_s0 (r : Rec (dens [.sl (.int .u64)])) (a : List Int) (b : List Int) : evT Gcd_E Gcd_h r 3000 false [.code (bodyOf Go.Proofs.Tryz.f105)] (T0 0 [.ints .u64 a, .ints .u64 b]) [] = Gcd_b0 (fun t0 t1 => r (todoOf 4 (bodyOf Go.Proofs.Tryz.f105)) [((0 : Nat), AV.ints IntKind.u64 t0), ((1 : Nat), AV.ints IntKind.u64 t1)] []) a b := by kernel_rfl
theorem Gcd_s4 (r : Rec (dens [.sl (.int .u64)])) (t0 : List Int) (t1 : List Int) : evT Gcd_E Gcd_h r 3000 true (todoOf 4 (bodyOf Go.Proofs.Tryz.f105)) [((0 : Nat), AV.ints IntKind.u64 t0), ((1 : Nat), AV.ints IntKind.u64 t1)] [] = Gcd_b4 (fun t0 t1 => r (todoOf 4 (bodyOf Go.Proofs.Tryz.f105)) [((0 : Nat), AV.ints IntKind.u64 t0), ((1 : Nat), AV.ints IntKind.u64 t1)] []) t0 t1 := by kernel_rfl
theorem Gcd_k : ∀ k, (∀ (t0 : List Int) (t1 : List Int), evK Gcd_E Gcd_h 3000 k (todoOf 4 (bodyOf Go.Proofs.Tryz.f105)) [((0 : Nat), AV.ints IntKind.u64 t0), ((1 : Nat), AV.ints IntKind.u64 t1)] [] = Gcd_L4 k t0 t1)
  | 0 => by
    refine ?_ <;> intros <;> rfl
  | k + 1 => by
    have ih := Gcd_k k
    refine ?_ <;> intros
    · exact ((Gcd_s4 _ _ _).trans (by simp only [ih] <;> rfl))
theorem Gcd_ev (k : Nat) (a : List Int) (b : List Int) : evM Gcd_E Gcd_h 3000 k [.code (bodyOf Go.Proofs.Tryz.f105)] (T0 0 [.ints .u64 a, .ints .u64 b]) [] = Gcd_b0 (Gcd_L4 k) a b := by
  refine (Gcd_s0 _ a b).trans ?_
  simp only [Gcd_k k] <;> rfl
def Lowest_h : Nat → Option Head := hintOf []
def Lowest_b0  (a : List Int) (b : List Int) : Option (List Int × List Int) :=
  Option.bind (GcdF (a, b)) fun t =>
  bif decide ((↑(List.length t) : Int) = (0 : Int)) then some ([], []) else Option.bind (DivModF (a, t)) fun t_1 => Option.bind (DivModF (b, t)) fun t => some (t_1.1, t.1)
noncomputable def Lowest_E : Env (dens [.sl (.int .u64), .sl (.int .u64)]) := envOf S.tab [(105, mkF [.sl (.int .u64), .sl (.int .u64)] [.sl (.int .u64)] GcdF), (115, mkF [.sl (.int .u64), .sl (.int .u64)] [.sl (.int .u64), .sl (.int .u64), .int .i64] DivModF)] Go.Proofs.Tryz.f107 [4, 5] [.sl (.int .u64), .sl (.int .u64)]
theorem Lowest_s0 (r : Rec (dens [.sl (.int .u64), .sl (.int .u64)])) (a : List Int) (b : List Int) : evT Lowest_E Lowest_h r 3000 false [.code (bodyOf Go.Proofs.Tryz.f107)] (T0 0 [.ints .u64 a, .ints .u64 b]) [] = Lowest_b0  a b := by kernel_rfl
theorem Lowest_ev (k : Nat) (a : List Int) (b : List Int) : evM Lowest_E Lowest_h 3000 k [.code (bodyOf Go.Proofs.Tryz.f107)] (T0 0 [.ints .u64 a, .ints .u64 b]) [] = Lowest_b0  a b := by
  exact Lowest_s0 _ a b
end
end Go.RX.S
