/- Powers, by quot and by the document; QuotPows. -/
import Derived.Test.YtciapojlnhiggaaVc
import Derived.Test.YtciapojlnhiggaaTc
set_option linter.unusedVariables false
set_option linter.unusedSimpArgs false
namespace Go.RX.S
open Go Go.RX

theorem bnd_ge' {v : Nat} (h : ¬ v < Lim) : bnd v = ([], 21) := if_neg h
/-! ### plumbref03: Norm, Bits -/
theorem blen_half {w : Nat} (h : w ≠ 0) : blen w = blen (w / 2) + 1 := by
  by_cases c : w / 2 = 0
  · have : w = 1 := by omega
    subst this
    have b0 : blen 0 = 0 := by simp [blen]
    rw [show 1 / 2 = 0 from rfl, b0]
    exact blen_unique (by omega) (.inr (by omega))
  · have := blen_div (x := w) (j := 1) (by rw [Nat.pow_one]; exact c)
    rw [Nat.pow_one] at this
    exact this
/-! ### plumbref03: products by halves of words -/
/-- A row, a digit's multiple of another added. -/
def gmulrow (b a : Nat) : Nat → List Int → List Int → List Int
  | c, [], _ => [(c : Int)]
  | c, y :: ys, s :: ss => (((a * y.toNat + s.toNat + c) % b : Nat) : Int) :: gmulrow b a ((a * y.toNat + s.toNat + c) / b) ys ss
  | c, _ :: _, [] => []
theorem gmul_bound {b a y s c : Nat} (ha : a < b) (hy : y < b) (hs : s < b) (hc : c < b) : (a * y + s + c) / b < b := by
  rw [Nat.div_lt_iff_lt_mul (by omega)]
  obtain ⟨m, rfl⟩ : ∃ m, b = m + 1 := ⟨b - 1, by omega⟩
  have : a * y ≤ m * m := Nat.mul_le_mul (by omega) (by omega)
  have e : (m + 1) * (m + 1) = m * m + m + m + 1 := by grind
  omega
theorem gmulrow_spec {b a : Nat} (ha : a < b) : ∀ (ys ss : List Int) (c : Nat), Dg b ys → Dg b ss → c < b → ys.length = ss.length → gval b (gmulrow b a c ys ss) = gval b ss + a * gval b ys + c ∧ Dg b (gmulrow b a c ys ss) ∧ (gmulrow b a c ys ss).length = ys.length + 1
  | [], [], c, _, _, hc, _ => by
    refine ⟨by simp [gmulrow, gval], ?_, rfl⟩
    rw [gmulrow, Dg.cons]
    exact ⟨⟨by omega, by omega⟩, Dg.nil⟩
  | y :: ys, s :: ss, c, hy, hs, hc, hl => by
    rw [Dg.cons] at hy hs
    have hb := gmul_bound (a := a) (y := y.toNat) (s := s.toNat) (c := c) ha (by omega) (by omega) hc
    obtain ⟨h1, h2, h3⟩ := gmulrow_spec ha ys ss ((a * y.toNat + s.toNat + c) / b) hy.2 hs.2 hb (by simpa using hl)
    refine ⟨?_, ?_, by simp [gmulrow, h3]⟩
    · have hdm := Nat.div_add_mod (a * y.toNat + s.toNat + c) b
      rw [gmulrow, gval_cons, gval_cons, gval_cons, h1, Int.toNat_natCast]
      generalize (a * y.toNat + s.toNat + c) / b = q at *
      generalize (a * y.toNat + s.toNat + c) % b = r at *
      grind
    · have hm : (a * y.toNat + s.toNat + c) % b < b := Nat.mod_lt _ (by omega)
      rw [gmulrow, Dg.cons]
      exact ⟨⟨by omega, by omega⟩, h2⟩
  | [], _ :: _, _, _, _, _, hl => by simp at hl
  | _ :: _, [], _, _, _, _, hl => by simp at hl
/-- The halves of words. -/
def halves : List Int → List Int
  | [] => []
  | x :: xs => ((x.toNat % 4294967296 : Nat) : Int) :: ((x.toNat / 4294967296 : Nat) : Int) :: halves xs
theorem halves_len : ∀ x, (halves x).length = 2 * x.length
  | [] => rfl
  | x :: xs => by simp only [halves, List.length_cons, halves_len xs]; omega
theorem halves_val : ∀ x, gval 4294967296 (halves x) = val x
  | [] => rfl
  | x :: xs => by
    rw [halves, gval_cons, gval_cons, halves_val xs, val_cons, Int.toNat_natCast, Int.toNat_natCast]
    omega
theorem halves_ok : ∀ {x}, W64 x → Dg 4294967296 (halves x)
  | [], _ => Dg.nil
  | x :: xs, h => by
    rw [W64.cons] at h
    rw [halves, Dg.cons, Dg.cons]
    exact ⟨⟨by omega, by omega⟩, ⟨by omega, by omega⟩, halves_ok h.2⟩
theorem halves_get : ∀ (x : List Int) (i : Nat), (halves x).getD i 0 = (((x.getD (i / 2) 0).toNat / 2 ^ (32 * (i % 2)) % 4294967296 : Nat) : Int) ∨ ¬ W64 x
  | [], i => .inl (by simp [halves])
  | x :: xs, i => by
    by_cases hw : W64 (x :: xs)
    · rw [W64.cons] at hw
      left
      match i with
      | 0 => simp [halves]
      | 1 =>
        simp only [halves, List.getD_cons_succ, List.getD_cons_zero]
        rw [show 1 / 2 = 0 from rfl, List.getD_cons_zero, show 32 * (1 % 2) = 32 from rfl, show (2 : Nat) ^ 32 = 4294967296 from rfl]
        omega
      | i + 2 =>
        simp only [halves, List.getD_cons_succ]
        rcases halves_get xs i with h | h
        · rw [h, show (i + 2) / 2 = i / 2 + 1 from by omega, List.getD_cons_succ, show (i + 2) % 2 = i % 2 from by omega]
        · exact absurd hw.2 h
    · exact .inr hw
theorem half_at {x : List Int} (hx : W64 x) {i : Nat} (hi : i ≤ 4611686018427387904) : andI .u64 (shrI .u64 (rdI x (divI .i64 (i : Int) 2)) (mulI .i64 32 (remI (i : Int) 2))) 4294967295 = (halves x).getD i 0 := by
  have e1 : divI .i64 (i : Int) 2 = ((i / 2 : Nat) : Int) := by
    rw [divI, IntWalk.i64_quo _ _ (by omega)]
    omega
  have e2 : remI (i : Int) 2 = ((i % 2 : Nat) : Int) := by
    rw [remI, Int.tmod_eq_emod_of_nonneg (by omega)]
    omega
  have e3 : mulI .i64 32 ((i % 2 : Nat) : Int) = ((32 * (i % 2) : Nat) : Int) := by
    rw [mulI_i64 (by omega)]
    omega
  obtain ⟨d, hd, hd2⟩ := Wd.nat (hx.get (i / 2))
  rw [e1, e2, e3, rdI_nat, hd, shrI_u64 _ _ hd2, lo32 (Nat.lt_of_le_of_lt (Nat.div_le_self _ _) hd2)]
  rcases halves_get x i with h | h
  · rw [h, hd, Int.toNat_natCast]
  · exact absurd hx h
/-- Halves put together. -/
def joined : List Int → List Int
  | l :: h :: r => ((h.toNat * 4294967296 + l.toNat : Nat) : Int) :: joined r
  | _ => []
theorem joined_spec : ∀ (n : Nat) (p : List Int), p.length = 2 * n → Dg 4294967296 p → val (joined p) = gval 4294967296 p ∧ W64 (joined p) ∧ (joined p).length = n
  | 0, p, h, _ => by
    obtain rfl : p = [] := List.eq_nil_of_length_eq_zero (by omega)
    exact ⟨rfl, W64.nil, rfl⟩
  | n + 1, l :: h :: r, hl, hd => by
    rw [Dg.cons, Dg.cons] at hd
    obtain ⟨h1, h2, h3⟩ := joined_spec n r (by simp at hl; omega) hd.2.2
    refine ⟨?_, ?_, by simp [joined, h3]⟩
    · rw [joined, val_cons, h1, gval_cons, gval_cons, Int.toNat_natCast]
      omega
    · rw [joined, W64.cons]
      exact ⟨⟨by omega, by omega⟩, h2⟩
  | n + 1, [], hl, _ => by simp at hl
  | n + 1, [_], hl, _ => by simp only [List.length_cons, List.length_nil] at hl; omega
/-! ### powers -/
theorem can_one : can 1 = [1] := by
  rw [can_pos (by omega), show 1 / 18446744073709551616 = 0 from rfl, can_zero]
  rfl
theorem V_can_val {a : List Int} (h : V a) : V (can (val a)) := by
  have h1 := len_can_val h.1
  have h2 := sz_le a
  have h3 := h.2
  exact ⟨can_ok _, by omega⟩
theorem shrI_i64 {n i : Nat} (hi : i ≤ 64) : shrI .i64 (n : Int) (i : Int) = ((n / 2 ^ i : Nat) : Int) := by
  have hb : (IntKind.i64).bits = 64 := rfl
  rw [shrI, hb, Int.toNat_natCast, Nat.min_eq_left hi]
  have e : ((2 : Int) ^ i) = ((2 ^ i : Nat) : Int) := by simp
  rw [e, Int.fdiv_eq_ediv_of_nonneg _ (Int.natCast_nonneg _), ← Int.natCast_ediv]
theorem andI_i64_one {n : Nat} (hn : n < 9223372036854775808) : andI .i64 (n : Int) 1 = ((n % 2 : Nat) : Int) := by
  have h1 : (IntKind.i64).bits = 64 := rfl
  rw [andI, h1]
  simp only [BitVec.toNat_and, BitVec.toNat_ofInt]
  have e1 : ((n : Int) % ((2 ^ 64 : Nat) : Int)).toNat = n := by omega
  have e2 : ((1 : Int) % ((2 ^ 64 : Nat) : Int)).toNat = 1 := by omega
  rw [e1, e2, Nat.and_one_is_mod]
  exact IntWalk.i64_in _ (by omega)
theorem pow_step (X n i : Nat) : X ^ (n / 2 ^ i) = X ^ (n / 2 ^ (i + 1)) * X ^ (n / 2 ^ (i + 1)) * X ^ (n / 2 ^ i % 2) := by
  have h : n / 2 ^ i = 2 * (n / 2 ^ (i + 1)) + n / 2 ^ i % 2 := by
    rw [Nat.pow_succ, ← Nat.div_div_eq_div_mul]
    omega
  conv => lhs; rw [h]
  rw [Nat.pow_add, Nat.two_mul, Nat.pow_add]
theorem pow_le_of {X a b : Nat} (hX : 2 ≤ X) (h : a ≤ b) : X ^ a ≤ X ^ b := Nat.pow_le_pow_right (by omega) h
/-- A power, or that it is too great. -/
def pres (v : Nat) : List Int × Int := if v < Lim then (can v, 0) else ([], 21)
theorem pres_bnd (v : Nat) : pres v = bnd v := rfl
theorem pow_big {X n : Nat} (hX : 2 ≤ X) (h : 262144 < n * (blen X - 1)) : ¬ X ^ n < Lim := by
  have h1 := blen_ge (v := X) (by omega)
  have h2 : (2 ^ (blen X - 1)) ^ n ≤ X ^ n := Nat.pow_le_pow_left h1 n
  rw [← Nat.pow_mul] at h2
  rw [Lim_pow]
  have h3 : 2 ^ (64 * lw) ≤ 2 ^ ((blen X - 1) * n) := Nat.pow_le_pow_right (by omega) (by rw [lw_eq, Nat.mul_comm (blen X - 1)]; omega)
  omega
theorem blen_two {X : Nat} : blen X < 2 ↔ X < 2 := by
  have := blen_le_iff 1 X
  rw [Nat.pow_one] at this
  omega
theorem quo_lt {m : Nat} (hm : 0 < m) (hm2 : m ≤ 9223372036854775807) : divI .i64 262144 (m : Int) = ((262144 / m : Nat) : Int) := by
  rw [divI, IntWalk.i64_quo _ _ (by omega)]
  rfl
theorem blen_can_le {a : List Int} (h : V a) : blen (val a) ≤ 1125899906842624 := blen_V h
theorem r3MulF_ok {x y : List Int} (hx : W64 x) (hy : W64 y) (lx : x.length ≤ 100000000) (ly : y.length ≤ 100000000) : r3MulF (x, y) = some (can (val x * val y)) := gu_pos ⟨hx, hy, lx, ly⟩
theorem can_len_blen {v K : Nat} (h : blen v ≤ 64 * K) : (can v).length ≤ K := can_len (by rw [pow64]; exact (blen_le_iff _ _).1 h)
theorem powF_len (v : Nat) (n : Int) : (powF v n).1.length ≤ 17609365913600 := by
  unfold powF
  split
  · simp
  · split
    · rw [can_one]; simp
    · split
      · have := can_cons_len (v := v) (by omega)
        dsimp only
        omega
      · split
        · rename_i h
          exact (U_can h).2
        · simp
theorem powF_err (v : Nat) (n : Int) : I64 (powF v n).2 := by
  unfold powF I64
  split
  · dsimp only; omega
  · split
    · dsimp only; omega
    · split
      · dsimp only; omega
      · split <;> dsimp only <;> omega
end Go.RX.S
