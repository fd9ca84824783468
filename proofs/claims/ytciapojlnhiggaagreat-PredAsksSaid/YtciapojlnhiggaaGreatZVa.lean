/- The laws' own helpers; NatBack. -/
import Derived.Test.YtciapojlnhiggaaGreatZUc
import Derived.Test.YtciapojlnhiggaaGreatZTb
set_option linter.unusedVariables false
set_option linter.unusedSimpArgs false
namespace Go.RX.S
open Go Go.RX
theorem nAddF_V {x y : List Int} (hx : V x) (hy : V y) : nAddF (x, y) = some (bnd (val x + val y)) := gu_pos ⟨hx, hy⟩
theorem sameF_ok {a b : List Int} (h : a.length ≤ 17609365913600) : sameF (a, b) = some (@decide (a = b) (Classical.propDecidable _)) := gu_pos h
theorem bnd_ok {v : Nat} (h : v < Lim) : bnd v = (can v, 0) := if_pos h
theorem nNormZ_law {a t : List Int} (h : nNormF a = some t) : ∃ k : Nat, nNormZ_b0 a = some t := nNorm_law h
theorem nAddF_ok {x y : List Int} (hx : V x) (hy : V y) (h : val x + val y < Lim) : nAddF (x, y) = some (can (val x + val y), 0) := by rw [nAddF_V hx hy, bnd_ok h]
theorem nSubF_ok {x y : List Int} (hx : V x) (hy : V y) (h : val y ≤ val x) (h2 : val x < Lim) : nSubF (x, y) = some (can (val x - val y), 0) := by
  rw [nSubF, gu_pos ⟨hx, hy⟩]
  dsimp only
  rw [if_neg (by omega), bnd_ok (by omega)]
theorem nCmpF_ok {x y : List Int} (hx : V x) (hy : V y) : nCmpF (x, y) = some (sgn (val x) (val y)) := gu_pos ⟨hx.U, hy.U⟩
theorem nNormF_ok {x : List Int} (h : V x) : nNormF x = some (can (val x)) := gu_pos h.U
theorem mul60 {n : Nat} (h : n ≤ 60) : n * 18446744073709551616 ^ 60 < Lim := by
  refine lt_Lim (n := 61) ?_ (by rw [lw_eq]; omega)
  have : 18446744073709551616 ^ 61 = 18446744073709551616 ^ 60 * 18446744073709551616 := Nat.pow_succ 18446744073709551616 60
  rw [this]
  have hp : 0 < 18446744073709551616 ^ 60 := Nat.pow_pos (by omega)
  have h2 : n * 18446744073709551616 ^ 60 ≤ 60 * 18446744073709551616 ^ 60 := Nat.mul_le_mul_right _ h
  generalize 18446744073709551616 ^ 60 = p at *
  omega
theorem nNormZ_ok : CtrOk Go.Proofs.Tryz.prog 98 (mkF [.sl (.int .u64)] [.sl (.int .u64)] nNormF) := by
  refine mkF_ok (c := bodyOf Go.Proofs.Tryz.f98) (tab := S.tab) (cts := [(99, mkF [.sl (.int .u64)] [.int .i64] nSizeF)]) (res := [2]) tab_ok hm ⟨nSize_ok, trivial⟩ Go.Proofs.Tryz.func98 (by kernel_rfl) (by kernel_rfl) (by kernel_rfl) (by kernel_rfl) (by kernel_rfl) ?_
  rintro a t h
  obtain ⟨k, hk⟩ := nNormZ_law h
  exact ⟨nNormZ_h, 3000, k, (nNormZ_ev k a).trans hk⟩
end Go.RX.S
