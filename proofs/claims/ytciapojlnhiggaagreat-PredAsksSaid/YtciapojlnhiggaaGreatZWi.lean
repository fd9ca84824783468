/- quot: divisors and roots; plumblaw03's helpers. -/
import Derived.Test.YtciapojlnhiggaaGreatZWh
import Derived.Test.YtciapojlnhiggaaGreatZTf
set_option linter.unusedVariables false
set_option linter.unusedSimpArgs false
namespace Go.RX.S
open Go Go.RX
theorem qshrF_one {x : List Int} (hx : V x) : qshrF (x, 1) = some (can (val x / 2)) := by
  rw [qshrF, gu_pos ⟨hx, by show (0 : Int) ≤ 1; decide, by show (1 : Int) < 64; decide⟩]
  rfl
theorem Gcd_loop : ∀ (Y X k : Nat), V (can X) → V (can Y) → Y + 1 ≤ k → Gcd_L4 k (can X) (can Y) = some (can (Nat.gcd X Y)) := by
  intro Y
  induction Y using Nat.strongRecOn with
  | _ Y ih =>
    intro X k hX hY hk
    obtain ⟨k, rfl⟩ : ∃ j, k = j + 1 := ⟨k - 1, by omega⟩
    rw [Gcd_L4, Gcd_b4, cond_dec]
    by_cases c : Y = 0
    · rw [c, can_zero, if_neg (by simp), Nat.gcd_zero_right]
    · have hne : (can Y).length ≠ 0 := fun h => c (can_nil.1 (List.length_eq_zero_iff.1 h))
      have hlt := Nat.mod_lt X (show 0 < Y by omega)
      rw [if_pos (by omega), DivModF_ok hX hY, Option.bind_some, val_can, val_can, if_neg c]
      dsimp only
      rw [ih (X % Y) hlt Y k hY (V_le (by omega) hY) (by omega), Nat.gcd_comm X Y, Nat.gcd_comm Y (X % Y), ← Nat.gcd_rec]
theorem Gcd_law {a b t : List Int} (h : GcdF (a, b) = some t) : ∃ k : Nat, Gcd_b0 (Gcd_L4 k) a b = some t := by
  obtain ⟨⟨ha, hb⟩, rfl⟩ := gu_eq.1 h
  dsimp only at *
  refine ⟨val b + 1, ?_⟩
  rw [Gcd_b0, nNormF_U ha.U, Option.bind_some, nNormF_U hb.U, Option.bind_some]
  exact Gcd_loop _ _ _ (V_val ha) (V_val hb) (by omega)
theorem GcdF_ok {x y : List Int} (hx : V x) (hy : V y) : GcdF (x, y) = some (can (Nat.gcd (val x) (val y))) := gu_pos ⟨hx, hy⟩
theorem V_gcd {x y : List Int} (hx : V x) (hy : V y) : V (can (Nat.gcd (val x) (val y))) := by
  rcases Nat.eq_zero_or_pos (val x) with h | h
  · rw [h, Nat.gcd_zero_left]
    exact V_val hy
  · exact V_le (Nat.gcd_le_left _ h) (V_val hx)
theorem Lowest_law {a b : List Int} {t : List Int × List Int} (h : LowestF (a, b) = some t) : ∃ k : Nat, Lowest_b0 a b = some t := by
  obtain ⟨⟨ha, hb⟩, rfl⟩ := gu_eq.1 h
  dsimp only at *
  refine ⟨0, ?_⟩
  rw [Lowest_b0, GcdF_ok ha hb, Option.bind_some, cond_dec]
  by_cases c : Nat.gcd (val a) (val b) = 0
  · rw [c, can_zero, if_pos (by simp), Nat.div_zero, Nat.div_zero, can_zero]
  · have hne : (can (Nat.gcd (val a) (val b))).length ≠ 0 := fun h => c (can_nil.1 (List.length_eq_zero_iff.1 h))
    rw [if_neg (by omega), DivModF_ok ha (V_gcd ha hb), Option.bind_some, DivModF_ok hb (V_gcd ha hb), Option.bind_some, val_can, if_neg c, if_neg c]
theorem numF_ok {n : Int} (h : I64 n) : numF n = some n := gu_pos h
theorem Gcd_ok : CtrOk Go.Proofs.Tryz.prog 105 (mkF [.sl (.int .u64), .sl (.int .u64)] [.sl (.int .u64)] GcdF) := by
  refine mkF_ok (c := bodyOf Go.Proofs.Tryz.f105) (tab := S.tab) (cts := [(98, mkZ [.sl (.int .u64)] .u64 nNormF), (115, mkF [.sl (.int .u64), .sl (.int .u64)] [.sl (.int .u64), .sl (.int .u64), .int .i64] DivModF)]) (res := [4]) tab_ok hm ⟨nNormV_ok, DivMod_ok, trivial⟩ Go.Proofs.Tryz.func105 (by kernel_rfl) (by kernel_rfl) (by kernel_rfl) (by kernel_rfl) (by kernel_rfl) ?_
  rintro ⟨a, b⟩ t h
  obtain ⟨k, hk⟩ := Gcd_law h
  exact ⟨Gcd_h, 3000, k, (Gcd_ev k a b).trans hk⟩
theorem Lowest_ok : CtrOk Go.Proofs.Tryz.prog 107 (mkF [.sl (.int .u64), .sl (.int .u64)] [.sl (.int .u64), .sl (.int .u64)] LowestF) := by
  refine mkF_ok (c := bodyOf Go.Proofs.Tryz.f107) (tab := S.tab) (cts := [(105, mkF [.sl (.int .u64), .sl (.int .u64)] [.sl (.int .u64)] GcdF), (115, mkF [.sl (.int .u64), .sl (.int .u64)] [.sl (.int .u64), .sl (.int .u64), .int .i64] DivModF)]) (res := [4, 5]) tab_ok hm ⟨Gcd_ok, DivMod_ok, trivial⟩ Go.Proofs.Tryz.func107 (by kernel_rfl) (by kernel_rfl) (by kernel_rfl) (by kernel_rfl) (by kernel_rfl) ?_
  rintro ⟨a, b⟩ t h
  obtain ⟨k, hk⟩ := Lowest_law h
  exact ⟨Lowest_h, 3000, k, (Lowest_ev k a b).trans hk⟩
end Go.RX.S
