/- quot: divisors and roots; plumblaw03's helpers. -/
import Derived.Test.YtciapojlnhiggaaWh
import Derived.Test.YtciapojlnhiggaaTf
set_option linter.unusedVariables false
set_option linter.unusedSimpArgs false
namespace Go.RX.S
open Go Go.RX

theorem qaddF_ok {x y : List Int} (hx : V x) (hy : V y) : qaddF (x, y) = some (can (val x + val y)) := gu_pos ⟨hx, hy⟩
theorem qshrF_one {x : List Int} (hx : V x) : qshrF (x, 1) = some (can (val x / 2)) := by
  rw [qshrF, gu_pos ⟨hx, by show (0 : Int) ≤ 1; decide, by show (1 : Int) < 64; decide⟩]
  rfl

/-! ### divisors -/
theorem Gcd_loop : ∀ (Y X k : Nat), V (can X) → V (can Y) → Y + 1 ≤ k → Gcd_L4 k (can X) (can Y) = some (can (Nat.gcd X Y)) := by
  intro Y
  induction Y using Nat.strongRecOn with
  | _ Y ih =>
    intro X k hX hY hk
    obtain ⟨k, rfl⟩ : ∃ j, k = j + 1 := ⟨k - 1, by omega⟩
    rw [Gcd_L4, Gcd_b4, cond_dec]
    by_cases c : Y = 0
    · rw [c, can_zero, if_neg (by simp), Nat.gcd_zero_right]
    · have hne : (can Y).length ≠ 0 := fun h => c (can_nil.1 (List.length_eq_zero_iff.1 h))
      have hlt := Nat.mod_lt X (show 0 < Y by omega)
      rw [if_pos (by omega), DivModF_ok hX hY, Option.bind_some, val_can, val_can, if_neg c]
      dsimp only
      rw [ih (X % Y) hlt Y k hY (V_le (by omega) hY) (by omega), Nat.gcd_comm X Y, Nat.gcd_comm Y (X % Y), ← Nat.gcd_rec]
theorem Gcd_law {a b t : List Int} (h : GcdF (a, b) = some t) : ∃ k : Nat, Gcd_b0 (Gcd_L4 k) a b = some t := by
  obtain ⟨⟨ha, hb⟩, rfl⟩ := gu_eq.1 h
  dsimp only at *
  refine ⟨val b + 1, ?_⟩
  rw [Gcd_b0, nNormF_U ha.U, Option.bind_some, nNormF_U hb.U, Option.bind_some]
  exact Gcd_loop _ _ _ (V_val ha) (V_val hb) (by omega)
theorem GcdF_ok {x y : List Int} (hx : V x) (hy : V y) : GcdF (x, y) = some (can (Nat.gcd (val x) (val y))) := gu_pos ⟨hx, hy⟩
theorem V_gcd {x y : List Int} (hx : V x) (hy : V y) : V (can (Nat.gcd (val x) (val y))) := by
  rcases Nat.eq_zero_or_pos (val x) with h | h
  · rw [h, Nat.gcd_zero_left]
    exact V_val hy
  · exact V_le (Nat.gcd_le_left _ h) (V_val hx)
theorem Lowest_law {a b : List Int} {t : List Int × List Int} (h : LowestF (a, b) = some t) : ∃ k : Nat, Lowest_b0 a b = some t := by
  obtain ⟨⟨ha, hb⟩, rfl⟩ := gu_eq.1 h
  dsimp only at *
  refine ⟨0, ?_⟩
  rw [Lowest_b0, GcdF_ok ha hb, Option.bind_some, cond_dec]
  by_cases c : Nat.gcd (val a) (val b) = 0
  · rw [c, can_zero, if_pos (by simp), Nat.div_zero, Nat.div_zero, can_zero]
  · have hne : (can (Nat.gcd (val a) (val b))).length ≠ 0 := fun h => c (can_nil.1 (List.length_eq_zero_iff.1 h))
    rw [if_neg (by omega), DivModF_ok ha (V_gcd ha hb), Option.bind_some, DivModF_ok hb (V_gcd ha hb), Option.bind_some, val_can, if_neg c, if_neg c]

/-! ### roots -/
theorem newton {X s : Nat} (hs : 0 < s) : 2 * isq X ≤ s + X / s := by
  have h1 := (isq_spec X).1
  rcases Nat.lt_or_ge (2 * isq X) s with h | h
  · exact Nat.le_trans (Nat.le_of_lt h) (Nat.le_add_right _ _)
  · obtain ⟨d, hd⟩ : ∃ d, 2 * isq X = s + d := ⟨2 * isq X - s, by omega⟩
    have : d ≤ X / s := by
      rw [Nat.le_div_iff_mul_le hs]
      refine Nat.le_trans ?_ h1
      -- d * s ≤ r * r
      have h2 : 4 * (isq X * isq X) = (s + d) * (s + d) := by rw [← hd]; grind
      have h3 : (s + d) * (s + d) = s * s + 2 * (d * s) + d * d := by grind
      have h4 : 2 * (d * s) ≤ s * s + d * d := by
        rcases Nat.le_total d s with h5 | h5
        · obtain ⟨e, rfl⟩ := Nat.le.dest h5
          have : (d + e) * (d + e) + d * d = 2 * (d * (d + e)) + e * e := by grind
          omega
        · obtain ⟨e, rfl⟩ := Nat.le.dest h5
          have : s * s + (s + e) * (s + e) = 2 * ((s + e) * s) + e * e := by grind
          omega
      omega
    omega
theorem root_end {X s : Nat} (hs : 0 < s) (hr : isq X ≤ s) (h : s ≤ (s + X / s) / 2) : isq X = s := by
  have h1 : s ≤ X / s := by omega
  rw [Nat.le_div_iff_mul_le hs] at h1
  have h2 := (isq_spec X).2
  rcases Nat.lt_or_ge (isq X) s with h3 | h3
  · have : (isq X + 1) * (isq X + 1) ≤ s * s := Nat.mul_le_mul h3 h3
    omega
  · omega
theorem root_just {X s : Nat} (hs : 0 < s) : (X % s = 0 ∧ X / s = s) ↔ s * s = X := by
  have h := Nat.div_add_mod X s
  constructor
  · rintro ⟨h1, h2⟩
    rw [h1, h2] at h
    omega
  · intro h1
    rw [← h1]
    exact ⟨Nat.mul_mod_right _ _, Nat.mul_div_cancel _ hs⟩
theorem isq_le_of {X s : Nat} (h : X < (s + 1) * (s + 1)) : isq X ≤ s := by
  have h1 := (isq_spec X).1
  rcases Nat.lt_or_ge s (isq X) with h2 | h2
  · have : (s + 1) * (s + 1) ≤ isq X * isq X := Nat.mul_le_mul h2 h2
    omega
  · exact h2
/-! ### helpers -/
theorem V_emp : V [] := ⟨W64.nil, by simp⟩
theorem sgn_eq_zero {a b : Nat} : sgn a b = 0 ↔ a = b := by
  rw [sgn]
  split
  · constructor
    · intro h; omega
    · intro h; omega
  · split
    · simp [*]
    · simp [*]
theorem numF_ok {n : Int} (h : I64 n) : numF n = some n := gu_pos h
theorem bnd_I64 (v : Nat) : I64 (bnd v).2 := by
  unfold bnd I64
  split <;> dsimp only <;> omega
theorem bnd_V (v : Nat) : V (bnd v).1 := by
  unfold bnd
  split
  · rename_i h; exact V_can h
  · exact V_emp
theorem can_word {n : Nat} (h0 : n ≠ 0) (h : n < 18446744073709551616) : can n = [(n : Int)] := by
  rw [can_pos h0, Nat.mod_eq_of_lt h, Nat.div_eq_of_lt h, can_zero]
theorem Gcd_ok : CtrOk Go.Proofs.Try.prog 86 (mkF [.sl (.int .u64), .sl (.int .u64)] [.sl (.int .u64)] GcdF) := by
  refine mkF_ok (c := bodyOf Go.Proofs.Try.f86) (tab := S.tab) (cts := [(79, mkZ [.sl (.int .u64)] .u64 nNormF), (95, mkF [.sl (.int .u64), .sl (.int .u64)] [.sl (.int .u64), .sl (.int .u64), .int .i64] DivModF)]) (res := [4]) tab_ok hm ⟨nNormV_ok, DivMod_ok, trivial⟩ Go.Proofs.Try.func86 (by kernel_rfl) (by kernel_rfl) (by kernel_rfl) (by kernel_rfl) (by kernel_rfl) ?_
  rintro ⟨a, b⟩ t h
  obtain ⟨k, hk⟩ := Gcd_law h
  exact ⟨Gcd_h, 3000, k, (Gcd_ev k a b).trans hk⟩

theorem Lowest_ok : CtrOk Go.Proofs.Try.prog 88 (mkF [.sl (.int .u64), .sl (.int .u64)] [.sl (.int .u64), .sl (.int .u64)] LowestF) := by
  refine mkF_ok (c := bodyOf Go.Proofs.Try.f88) (tab := S.tab) (cts := [(86, mkF [.sl (.int .u64), .sl (.int .u64)] [.sl (.int .u64)] GcdF), (95, mkF [.sl (.int .u64), .sl (.int .u64)] [.sl (.int .u64), .sl (.int .u64), .int .i64] DivModF)]) (res := [4, 5]) tab_ok hm ⟨Gcd_ok, DivMod_ok, trivial⟩ Go.Proofs.Try.func88 (by kernel_rfl) (by kernel_rfl) (by kernel_rfl) (by kernel_rfl) (by kernel_rfl) ?_
  rintro ⟨a, b⟩ t h
  obtain ⟨k, hk⟩ := Lowest_law h
  exact ⟨Lowest_h, 3000, k, (Lowest_ev k a b).trans hk⟩

end Go.RX.S
