/- The laws' own helpers; NatBack. -/
import Derived.Test.YtciapojlnhiggaaUc
import Derived.Test.YtciapojlnhiggaaTb
set_option linter.unusedVariables false
set_option linter.unusedSimpArgs false
namespace Go.RX.S
open Go Go.RX

theorem nAddF_V {x y : List Int} (hx : V x) (hy : V y) : nAddF (x, y) = some (bnd (val x + val y)) := gu_pos ⟨hx, hy⟩
theorem sameF_ok {a b : List Int} (h : a.length ≤ 17609365913600) : sameF (a, b) = some (@decide (a = b) (Classical.propDecidable _)) := gu_pos h
theorem sameF_can {u v : Nat} (h : u < Lim) : sameF (can u, can v) = some (decide (u = v)) := by
  rw [sameF_ok (U_can h).2]
  congr 1
  by_cases c : u = v
  · simp [c]
  · have : can u ≠ can v := fun e => c (can_inj.1 e)
    simp [c, this]
theorem V_lit {l : List Int} (h : l.all (fun x => decide (0 ≤ x ∧ x < 18446744073709551616)) = true) (hl : l.length ≤ 17592186044416) : V l :=
  ⟨fun x hx => of_decide_eq_true (List.all_eq_true.1 h x hx), hl⟩
theorem small_Lim {v : Nat} (h : v < 340282366920938463463374607431768211456) : v < Lim := lt_Lim (n := 2) (by omega) (by rw [lw_eq]; omega)
theorem bnd_ok {v : Nat} (h : v < Lim) : bnd v = (can v, 0) := if_pos h
theorem can_65 : can 18446744073709551616 = [0, 1] := by
  rw [can_pos (by omega), can_pos (by omega), show 18446744073709551616 / 18446744073709551616 / 18446744073709551616 = 0 from rfl, can_zero]
  rfl
theorem nNormZ_law {a t : List Int} (h : nNormF a = some t) : ∃ k : Nat, nNormZ_b0 a = some t := nNorm_law h

/-! ### what helpers tell -/
theorem cutF_ok {x : List Int} (h : W64 x) : cutF x = some (x.take 60) := gu_pos h
theorem V_cut {x : List Int} (h : W64 x) : V (x.take 60) := ⟨h.take 60, by rw [List.length_take]; omega⟩
theorem val_cut {x : List Int} (h : W64 x) : val (x.take 60) < 18446744073709551616 ^ 60 := val_take_lt h 60
theorem addF_ok {x y : List Int} (hx : V x) (hy : V y) (h : val x + val y < Lim) : addF (x, y) = some (can (val x + val y), true) := by
  rw [addF, gu_pos ⟨hx, hy⟩]
  simp only [okp]
  rw [if_pos h]
theorem mulF_ok {x y : List Int} (hx : V x) (hy : V y) (h : val x * val y < Lim) : mulF (x, y) = some (can (val x * val y), true) := by
  rw [mulF, gu_pos ⟨hx, hy⟩]
  simp only [okp]
  rw [if_pos h]
theorem nAddF_ok {x y : List Int} (hx : V x) (hy : V y) (h : val x + val y < Lim) : nAddF (x, y) = some (can (val x + val y), 0) := by rw [nAddF_V hx hy, bnd_ok h]
theorem nSubF_ok {x y : List Int} (hx : V x) (hy : V y) (h : val y ≤ val x) (h2 : val x < Lim) : nSubF (x, y) = some (can (val x - val y), 0) := by
  rw [nSubF, gu_pos ⟨hx, hy⟩]
  dsimp only
  rw [if_neg (by omega), bnd_ok (by omega)]
theorem nSubF_lt {x y : List Int} (hx : V x) (hy : V y) (h : val x < val y) : nSubF (x, y) = some ([], 20) := by
  rw [nSubF, gu_pos ⟨hx, hy⟩]
  dsimp only
  rw [if_pos h]
theorem nCmpF_ok {x y : List Int} (hx : V x) (hy : V y) : nCmpF (x, y) = some (sgn (val x) (val y)) := gu_pos ⟨hx.U, hy.U⟩
theorem aliveF_ok : aliveF PUnit.unit = some true := gu_pos trivial
theorem nNormF_ok {x : List Int} (h : V x) : nNormF x = some (can (val x)) := gu_pos h.U
theorem mul60 {n : Nat} (h : n ≤ 60) : n * 18446744073709551616 ^ 60 < Lim := by
  refine lt_Lim (n := 61) ?_ (by rw [lw_eq]; omega)
  have : 18446744073709551616 ^ 61 = 18446744073709551616 ^ 60 * 18446744073709551616 := Nat.pow_succ 18446744073709551616 60
  rw [this]
  have hp : 0 < 18446744073709551616 ^ 60 := Nat.pow_pos (by omega)
  have h2 : n * 18446744073709551616 ^ 60 ≤ 60 * 18446744073709551616 ^ 60 := Nat.mul_le_mul_right _ h
  generalize 18446744073709551616 ^ 60 = p at *
  omega
theorem nNormZ_ok : CtrOk Go.Proofs.Try.prog 79 (mkF [.sl (.int .u64)] [.sl (.int .u64)] nNormF) := by
  refine mkF_ok (c := bodyOf Go.Proofs.Try.f79) (tab := S.tab) (cts := [(80, mkF [.sl (.int .u64)] [.int .i64] nSizeF)]) (res := [2]) tab_ok hm ⟨nSize_ok, trivial⟩ Go.Proofs.Try.func79 (by kernel_rfl) (by kernel_rfl) (by kernel_rfl) (by kernel_rfl) (by kernel_rfl) ?_
  rintro a t h
  obtain ⟨k, hk⟩ := nNormZ_law h
  exact ⟨nNormZ_h, 3000, k, (nNormZ_ev k a).trans hk⟩

end Go.RX.S
