/- plumbref03: division, divisors, roots; every DivMod, Small, Gcd, Lowest and Root is the document's. -/
import Derived.Test.YtciapojlnhiggaaGreatZWl
import Derived.Test.YtciapojlnhiggaaGreatZWj
import Derived.Test.YtciapojlnhiggaaGreatZTi
set_option linter.unusedVariables false
set_option linter.unusedSimpArgs false
namespace Go.RX.S
open Go Go.RX
theorem r3Gcd_loop : ∀ (Y X k : Nat), L (can X) → L (can Y) → Y + 1 ≤ k → r3Gcd_L6 k (can X) (can Y) = some (can (Nat.gcd X Y)) := by
  intro Y
  induction Y using Nat.strongRecOn with
  | _ Y ih =>
    intro X k hX hY hk
    obtain ⟨k, rfl⟩ : ∃ j, k = j + 1 := ⟨k - 1, by omega⟩
    rw [r3Gcd_L6, r3Gcd_b6, cond_dec]
    by_cases c : Y = 0
    · rw [c, can_zero, if_neg (by simp), Nat.gcd_zero_right]
    · have hne : (can Y).length ≠ 0 := fun h => c (can_nil.1 (List.length_eq_zero_iff.1 h))
      have hlt := Nat.mod_lt X (show 0 < Y by omega)
      rw [if_pos (by omega), r3DivModF_ok hX hY, Option.bind_some, val_can, val_can, if_neg c]
      dsimp only
      rw [ih (X % Y) hlt Y k hY (L_le (by omega) hY) (by omega), Nat.gcd_comm X Y, Nat.gcd_comm Y (X % Y), ← Nat.gcd_rec]
theorem r3Gcd_law {a b t : List Int} (h : r3GcdF (a, b) = some t) : ∃ k : Nat, r3Gcd_b0 (r3Gcd_L6 k) a b = some t := by
  obtain ⟨⟨ha, hb⟩, rfl⟩ := gu_eq.1 h
  dsimp only at *
  refine ⟨val b + 1, ?_⟩
  rw [r3Gcd_b0, r3NormF_V ha.V, Option.bind_some, r3NormF_V hb.V, Option.bind_some]
  exact r3Gcd_loop _ _ _ ha.can hb.can (by omega)
theorem r3GcdF_ok {x y : List Int} (hx : L x) (hy : L y) : r3GcdF (x, y) = some (can (Nat.gcd (val x) (val y))) := gu_pos ⟨hx, hy⟩
theorem L_gcd {x y : List Int} (hx : L x) (hy : L y) : L (can (Nat.gcd (val x) (val y))) := by
  rcases Nat.eq_zero_or_pos (val x) with h | h
  · rw [h, Nat.gcd_zero_left]
    exact hy.can
  · exact L_le (Nat.gcd_le_left _ h) hx.can
theorem r3Lowest_law {a b : List Int} {t : List Int × List Int} (h : r3LowestF (a, b) = some t) : ∃ k : Nat, r3Lowest_b0 a b = some t := by
  obtain ⟨⟨ha, hb⟩, rfl⟩ := gu_eq.1 h
  dsimp only at *
  refine ⟨0, ?_⟩
  rw [r3Lowest_b0, r3GcdF_ok ha hb, Option.bind_some, cond_dec]
  by_cases c : Nat.gcd (val a) (val b) = 0
  · rw [c, can_zero, if_pos (by simp), Nat.div_zero, Nat.div_zero, can_zero]
  · have hne : (can (Nat.gcd (val a) (val b))).length ≠ 0 := fun h => c (can_nil.1 (List.length_eq_zero_iff.1 h))
    rw [if_neg (by omega), r3DivModF_ok ha (L_gcd ha hb), Option.bind_some, r3DivModF_ok hb (L_gcd ha hb), Option.bind_some, val_can, if_neg c, if_neg c]
theorem root_step {X S R two : Nat} (hS : S * S + R = X) (hR : R ≤ 2 * S) (h2 : two < 4) :
    (4 * S + 1 ≤ 4 * R + two → (2 * S + 1) * (2 * S + 1) + (4 * R + two - (4 * S + 1)) = 4 * X + two ∧ 4 * R + two - (4 * S + 1) ≤ 2 * (2 * S + 1)) ∧
    (4 * R + two < 4 * S + 1 → (2 * S) * (2 * S) + (4 * R + two) = 4 * X + two ∧ 4 * R + two ≤ 2 * (2 * S)) := by
  have e1 : (2 * S + 1) * (2 * S + 1) = 4 * (S * S) + 4 * S + 1 := by grind
  have e2 : (2 * S) * (2 * S) = 4 * (S * S) := by grind
  rw [e1, e2]
  constructor
  · intro h
    omega
  · intro h
    omega
theorem r3Gcd_ok : CtrOk Go.Proofs.Tryz.prog 61 (mkF [.sl (.int .u64), .sl (.int .u64)] [.sl (.int .u64)] r3GcdF) := by
  refine mkF_ok (c := bodyOf Go.Proofs.Tryz.f61) (tab := S.tab) (cts := [(63, mkF [.sl (.int .u64)] [.sl (.int .u64)] r3NormF), (62, mkF [.sl (.int .u64), .sl (.int .u64)] [.sl (.int .u64), .sl (.int .u64), .int .i64] r3DivModF)]) (res := [4]) tab_ok hm ⟨r3Norm_ok, r3DivMod_ok, trivial⟩ Go.Proofs.Tryz.func61 (by kernel_rfl) (by kernel_rfl) (by kernel_rfl) (by kernel_rfl) (by kernel_rfl) ?_
  rintro ⟨a, b⟩ t h
  obtain ⟨k, hk⟩ := r3Gcd_law h
  exact ⟨r3Gcd_h, 3000, k, (r3Gcd_ev k a b).trans hk⟩
theorem r3Lowest_ok : CtrOk Go.Proofs.Tryz.prog 30 (mkF [.sl (.int .u64), .sl (.int .u64)] [.sl (.int .u64), .sl (.int .u64)] r3LowestF) := by
  refine mkF_ok (c := bodyOf Go.Proofs.Tryz.f30) (tab := S.tab) (cts := [(61, mkF [.sl (.int .u64), .sl (.int .u64)] [.sl (.int .u64)] r3GcdF), (62, mkF [.sl (.int .u64), .sl (.int .u64)] [.sl (.int .u64), .sl (.int .u64), .int .i64] r3DivModF)]) (res := [4, 5]) tab_ok hm ⟨r3Gcd_ok, r3DivMod_ok, trivial⟩ Go.Proofs.Tryz.func30 (by kernel_rfl) (by kernel_rfl) (by kernel_rfl) (by kernel_rfl) (by kernel_rfl) ?_
  rintro ⟨a, b⟩ t h
  obtain ⟨k, hk⟩ := r3Lowest_law h
  exact ⟨r3Lowest_h, 3000, k, (r3Lowest_ev k a b).trans hk⟩
end Go.RX.S
