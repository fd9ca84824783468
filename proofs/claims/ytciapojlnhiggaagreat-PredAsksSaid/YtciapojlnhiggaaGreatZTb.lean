/- What functions compute, printed. -/
import Derived.Test.YtciapojlnhiggaaGreatZTa
set_option linter.unusedVariables false
set_option linter.unusedSimpArgs false
namespace Go.RX.S
open Go Go.RX
noncomputable section
def nNormZ_h : Nat → Option Head := hintOf []
def nNormZ_b0  (a : List Int) : Option (List Int) :=
  Option.bind (nSizeF a) fun t =>
  bif bif decide ((0 : Int) ≤ t) then decide (t * (8 : Int) ≤ (281474976710656 : Int)) else false then
    some (splice (List.replicate (Int.toNat t) (0 : Int)) (nat_lit 0) (List.take (List.length (List.replicate (Int.toNat t) (0 : Int))) a))
  else none
noncomputable def nNormZ_E : Env (dens [.sl (.int .u64)]) := envOf S.tab [(99, mkF [.sl (.int .u64)] [.int .i64] nSizeF)] Go.Proofs.Tryz.f98 [2] [.sl (.int .u64)]
theorem nNormZ_s0 (r : Rec (dens [.sl (.int .u64)])) (a : List Int) : evT nNormZ_E nNormZ_h r 3000 false [.code (bodyOf Go.Proofs.Tryz.f98)] (T0 0 [.ints .u64 a]) [] = nNormZ_b0  a := by kernel_rfl
theorem nNormZ_ev (k : Nat) (a : List Int) : evM nNormZ_E nNormZ_h 3000 k [.code (bodyOf Go.Proofs.Tryz.f98)] (T0 0 [.ints .u64 a]) [] = nNormZ_b0  a := by
  exact nNormZ_s0 _ a
end
end Go.RX.S
