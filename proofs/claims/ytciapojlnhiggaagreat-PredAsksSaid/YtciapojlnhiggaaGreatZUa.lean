/- The functions of wide: their contracts. -/
import Derived.Test.YtciapojlnhiggaaGreatZTa
set_option linter.unusedVariables false
set_option linter.unusedSimpArgs false
namespace Go.RX.S
open Go Go.RX
theorem wAdd_law {a b c : Int} {t : Int × Int} (h : wAddF (a, b, c) = some t) : ∃ k : Nat, wAdd_b0 a b c = some t := by
  obtain ⟨⟨ha, hb, hc⟩, rfl⟩ := gu_eq.1 h
  dsimp only at *
  refine ⟨0, ?_⟩
  have hand : andI .u64 c 1 = c % 2 := by
    obtain ⟨n, rfl, hn⟩ := hc.nat
    have := andI_u64 n 1 hn (by omega)
    rw [show ((1 : Int)) = ((1 : Nat) : Int) from rfl, this, Nat.and_one_is_mod]
    omega
  unfold wAdd_b0
  simp only [addI_u64, hand, cond_dec]
  unfold Wd at *
  split <;> (try split) <;> simp only [Option.some.injEq, Prod.mk.injEq] <;> omega
theorem wSub_law {a b c : Int} {t : Int × Int} (h : wSubF (a, b, c) = some t) : ∃ k : Nat, wSub_b0 a b c = some t := by
  obtain ⟨⟨ha, hb, hc⟩, rfl⟩ := gu_eq.1 h
  dsimp only at *
  refine ⟨0, ?_⟩
  have hand : andI .u64 c 1 = c % 2 := by
    obtain ⟨n, rfl, hn⟩ := hc.nat
    have := andI_u64 n 1 hn (by omega)
    rw [show ((1 : Int)) = ((1 : Nat) : Int) from rfl, this, Nat.and_one_is_mod]
    omega
  unfold wSub_b0
  simp only [subI_u64, hand, cond_dec]
  unfold Wd at *
  have h2 : 0 ≤ c % 2 ∧ c % 2 < 2 := by omega
  generalize c % 2 = d at *
  have e1 : ((a - b) % 18446744073709551616 - d) % 18446744073709551616 = (a - b - d) % 18446744073709551616 := by omega
  rw [e1]
  rcases Int.lt_or_le a b with h3 | h3
  · rw [if_pos h3, if_pos (show a < b + d by omega)]
  · rw [if_neg (by omega)]
    by_cases h4 : a = b
    · rw [if_pos h4]
      by_cases h5 : d = 1
      · rw [if_pos h5, if_pos (by omega)]
      · rw [if_neg h5, if_neg (by omega)]
    · rw [if_neg h4, if_neg (by omega)]
theorem wCmp_law {a b c d : Int} {t : Int} (h : wCmpF (a, b, c, d) = some t) : ∃ k : Nat, wCmp_b0 a b c d = some t := by
  obtain ⟨_, rfl⟩ := gu_eq.1 h
  dsimp only at *
  refine ⟨0, ?_⟩
  unfold wCmp_b0
  simp only [cond_dec]
  repeat' split
  all_goals first | rfl | omega
theorem wWithin_law {n : Int} {t : Int} (h : wWithinF n = some t) : ∃ k : Nat, wWithin_b0 n = some t := by
  obtain ⟨_, rfl⟩ := gu_eq.1 h
  refine ⟨0, ?_⟩
  unfold wWithin_b0 minI maxI
  repeat' split
  all_goals first | rfl | (congr 1; omega) | omega
theorem blen_div {x j : Nat} (h : x / 2 ^ j ≠ 0) : blen x = blen (x / 2 ^ j) + j := by
  have hp : 0 < 2 ^ j := Nat.pow_pos (by omega)
  refine blen_unique ?_ (.inr ?_)
  · have := blen_lt (x / 2 ^ j)
    rw [Nat.pow_add, ← Nat.div_lt_iff_lt_mul hp]
    exact this
  · have h1 := blen_ge h
    have h2 : blen (x / 2 ^ j) ≠ 0 := by
      intro e
      have := blen_lt (x / 2 ^ j)
      rw [e, Nat.pow_zero] at this
      exact h (Nat.lt_one_iff.1 this)
    rw [show blen (x / 2 ^ j) + j - 1 = (blen (x / 2 ^ j) - 1) + j from by omega, Nat.pow_add, ← Nat.le_div_iff_mul_le hp]
    exact h1
theorem wLen_step {k j R : Nat} {e : Int} (hj : 0 < j) (hR : R + j ≤ 64) (he : shrI .i64 (j : Int) 1 = e) (ih : ∀ x r : Nat, x < 2 ^ j → r ≤ R + j → wLen_L6 k (x : Int) (r : Int) e = some ((r + blen x : Nat) : Int)) :
    ∀ x r : Nat, x < 2 ^ (j + j) → j ≤ 32 → r ≤ R → wLen_L6 (k + 1) (x : Int) (r : Int) (j : Int) = some ((r + blen x : Nat) : Int) := by
  intro x r hx hj2 hr
  have h64 : 2 ^ (j + j) ≤ 2 ^ 64 := Nat.pow_le_pow_right (by omega) (by omega)
  rw [wLen_L6, wLen_b6, he, shrI_u64 x j (by omega), addI_i64 (by omega)]
  simp only [cond_dec, cond_ndec]
  rw [if_pos (by omega), if_pos (by omega)]
  have hd : x / 2 ^ j < 2 ^ j := by
    rw [Nat.div_lt_iff_lt_mul (Nat.pow_pos (by omega)), ← Nat.pow_add]
    exact hx
  split
  · rename_i h0
    refine ih x r ?_ (by omega)
    have h0' : x / 2 ^ j = 0 := by omega
    rcases (Nat.div_eq_zero_iff).1 h0' with h1 | h1
    · have := Nat.pow_pos (n := j) (a := 2) (by omega)
      omega
    · exact h1
  · rename_i h0
    rw [if_pos (by omega)]
    have := ih (x / 2 ^ j) (r + j) hd (by omega)
    rw [blen_div (x := x) (j := j) (by omega)]
    rw [show ((r : Int) + (j : Int)) = ((r + j : Nat) : Int) from by omega, this]
    congr 2
    omega
theorem wLen_law {a : Int} {t : Int} (h : wLenF a = some t) : ∃ k : Nat, wLen_b0 (wLen_L6 k) a = some t := by
  obtain ⟨ha, rfl⟩ := gu_eq.1 h
  obtain ⟨n, rfl, hn⟩ := ha.nat
  refine ⟨7, ?_⟩
  rw [wLen_b0, Int.toNat_natCast]
  have p0 : ∀ x r : Nat, x < 2 ^ 1 → r ≤ 63 → wLen_L6 1 (x : Int) (r : Int) 0 = some ((r + blen x : Nat) : Int) := by
    intro x r hx hr
    rw [wLen_L6, wLen_b6, cvI_i64 (by omega), addI_i64 (a := (r : Int)) (b := (x : Int)) (by omega)]
    simp only [cond_dec]
    rw [if_neg (by omega)]
    have : x = 0 ∨ x = 1 := by omega
    rcases this with rfl | rfl
    · simp [blen]
    · have : blen 1 = 1 := blen_unique (by omega) (.inr (by omega))
      rw [this]
      simp
  have p1 := wLen_step (j := 1) (R := 62) (e := 0) (by omega) (by omega) (by decide) p0
  have p2 := wLen_step (j := 2) (R := 60) (e := ((1 : Nat) : Int)) (by omega) (by omega) (by decide) fun x r hx hr => p1 x r hx (by omega) (by omega)
  have p3 := wLen_step (j := 4) (R := 56) (e := ((2 : Nat) : Int)) (by omega) (by omega) (by decide) fun x r hx hr => p2 x r hx (by omega) (by omega)
  have p4 := wLen_step (j := 8) (R := 48) (e := ((4 : Nat) : Int)) (by omega) (by omega) (by decide) fun x r hx hr => p3 x r hx (by omega) (by omega)
  have p5 := wLen_step (j := 16) (R := 32) (e := ((8 : Nat) : Int)) (by omega) (by omega) (by decide) fun x r hx hr => p4 x r hx (by omega) (by omega)
  have p6 := wLen_step (j := 32) (R := 0) (e := ((16 : Nat) : Int)) (by omega) (by omega) (by decide) fun x r hx hr => p5 x r hx (by omega) (by omega)
  have := p6 n 0 hn (by omega) (by omega)
  rw [Nat.zero_add] at this
  exact this
theorem and_rec (x y : Nat) : x &&& y = 2 * (x / 2 &&& y / 2) + (x % 2) * (y % 2) := by
  have h1 := Nat.div_add_mod (x &&& y) 2
  have h2 : (x &&& y) / 2 = x / 2 &&& y / 2 := by rw [Nat.and_div_two]
  have h3 : (x &&& y) % 2 = (x % 2) * (y % 2) := by
    have := Nat.and_mod_two_pow (a := x) (b := y) (n := 1)
    simp only [Nat.pow_one] at this
    rw [this]
    rcases Nat.mod_two_eq_zero_or_one x with h | h <;> rcases Nat.mod_two_eq_zero_or_one y with h' | h' <;> rw [h, h'] <;> rfl
  rw [h2, h3] at h1
  exact h1.symm
theorem tz_even {a : Nat} (h0 : a ≠ 0) (h : a % 2 = 0) : tz a = tz (a / 2) + 1 := by
  rw [tz, dif_neg h0, if_neg (by omega)]
theorem tz_odd {a : Nat} (h : a % 2 = 1) : tz a = 0 := by
  rw [tz, dif_neg (by omega), if_pos h]
theorem wWithinF_in {n : Int} (h0 : 0 ≤ n) (h1 : n ≤ 128) : wWithinF n = some n := by
  rw [wWithinF, gu_pos trivial, if_neg (by omega), if_neg (by omega)]
theorem pow_split {n : Nat} (h : n ≤ 64) : 2 ^ (64 - n) * 2 ^ n = 18446744073709551616 := by
  rw [← Nat.pow_add, show 64 - n + n = 64 from by omega]
theorem mul_mod_pow {a n : Nat} (h : n ≤ 64) : a * 2 ^ n % 18446744073709551616 = a % 2 ^ (64 - n) * 2 ^ n := by
  rw [← pow_split h, Nat.mul_mod_mul_right]
theorem mul_div_pow {a n : Nat} (h : n ≤ 64) : a * 2 ^ n / 18446744073709551616 = a / 2 ^ (64 - n) := by
  rw [← pow_split h, Nat.mul_div_mul_right _ _ (Nat.pow_pos (by omega))]
theorem div_pow_lt {a n : Nat} (ha : a < 18446744073709551616) (h : n ≤ 64) : a / 2 ^ (64 - n) < 2 ^ n := by
  rw [Nat.div_lt_iff_lt_mul (Nat.pow_pos (by omega)), Nat.mul_comm, pow_split h]
  exact ha
theorem wShl_law {a b n : Int} {t : Int × Int} (h : wShlF (a, b, n) = some t) : ∃ k : Nat, wShl_b0 a b n = some t := by
  obtain ⟨⟨ha, hb, h0, h1⟩, rfl⟩ := gu_eq.1 h
  dsimp only at *
  obtain ⟨x, rfl, hx⟩ := ha.nat
  obtain ⟨y, rfl, hy⟩ := hb.nat
  obtain ⟨m, rfl⟩ := Int.eq_ofNat_of_zero_le h0
  refine ⟨0, ?_⟩
  have hm : m ≤ 64 := by omega
  rw [wShl_b0, wWithinF_in h0 (by omega), Option.bind_some]
  have e1 : subI .i64 64 (m : Int) = ((64 - m : Nat) : Int) := by
    rw [subI_i64 (by omega)]
    omega
  simp only [cond_dec, e1]
  rw [if_neg (by omega), if_pos (by omega), if_pos (by omega), if_pos (by omega)]
  simp only [Int.toNat_natCast]
  rw [shlI_u64, shlI_u64, shrI_u64 _ _ hy]
  have hlt := div_pow_lt (n := m) hy hm
  have hlt2 : 2 ^ m < 18446744073709551616 := Nat.pow_lt_pow_right (a := 2) (n := 64) (by omega) (by omega)
  rw [orI_u64 _ _ (Nat.mod_lt _ (by omega)) (by omega), mul_mod_pow (a := x) hm, or_low hlt, mul_div_pow hm]
theorem wShr_law {a b n : Int} {t : Int × Int × Bool} (h : wShrF (a, b, n) = some t) : ∃ k : Nat, wShr_b0 a b n = some t := by
  obtain ⟨⟨ha, hb, h0, h1⟩, rfl⟩ := gu_eq.1 h
  dsimp only at *
  obtain ⟨x, rfl, hx⟩ := ha.nat
  obtain ⟨y, rfl, hy⟩ := hb.nat
  obtain ⟨m, rfl⟩ := Int.eq_ofNat_of_zero_le h0
  refine ⟨0, ?_⟩
  have hm : m ≤ 64 := by omega
  have hm' : 64 - m ≤ 64 := by omega
  have hmm : 64 - (64 - m) = m := by omega
  rw [wShr_b0, wWithinF_in h0 (by omega), Option.bind_some]
  have e1 : subI .i64 64 (m : Int) = ((64 - m : Nat) : Int) := by
    rw [subI_i64 (by omega)]
    omega
  simp only [cond_dec, e1]
  rw [if_neg (by omega), if_pos (by omega), if_pos (by omega), if_pos (by omega), if_pos (by omega)]
  simp only [Int.toNat_natCast]
  rw [shlI_u64, shlI_u64, shrI_u64 _ _ hx, shrI_u64 _ _ hy]
  have hlt : y / 2 ^ m < 2 ^ (64 - m) := by
    have := div_pow_lt (n := 64 - m) hy hm'
    rwa [hmm] at this
  have hyl : y / 2 ^ m < 18446744073709551616 := Nat.lt_of_le_of_lt (Nat.div_le_self _ _) hy
  have ep : 2 ^ m * 2 ^ (64 - m) = 18446744073709551616 := by
    have := pow_split hm'
    rwa [hmm] at this
  have hpm : 0 < 2 ^ m := Nat.pow_pos (by omega)
  have hpq : 0 < 2 ^ (64 - m) := Nat.pow_pos (by omega)
  have e2 : (y + 18446744073709551616 * x) / 2 ^ m = y / 2 ^ m + x * 2 ^ (64 - m) := by
    rw [← ep, Nat.mul_assoc, Nat.add_mul_div_left _ _ hpm, Nat.mul_comm (2 ^ (64 - m))]
  have e3 : (y / 2 ^ m + x * 2 ^ (64 - m)) % 18446744073709551616 = x % 2 ^ m * 2 ^ (64 - m) + y / 2 ^ m := by
    have h1 : x * 2 ^ (64 - m) % 18446744073709551616 = x % 2 ^ m * 2 ^ (64 - m) := by
      have := mul_mod_pow (a := x) hm'
      rwa [hmm] at this
    have h2 : x % 2 ^ m * 2 ^ (64 - m) + 2 ^ (64 - m) ≤ 18446744073709551616 := by
      rw [← ep, ← Nat.succ_mul]
      exact Nat.mul_le_mul_right _ (Nat.mod_lt _ hpm)
    rw [Nat.add_comm, Nat.add_mod, h1, Nat.mod_eq_of_lt hyl, Nat.mod_eq_of_lt (by omega)]
  rw [orI_u64 _ _ hyl (Nat.mod_lt _ (by omega)), e2, e3, Nat.or_comm]
  have e4 : x * 2 ^ (64 - m) % 18446744073709551616 = x % 2 ^ m * 2 ^ (64 - m) := by
    have := mul_mod_pow (a := x) hm'
    rwa [hmm] at this
  have e5 : y * 2 ^ (64 - m) % 18446744073709551616 = y % 2 ^ m * 2 ^ (64 - m) := by
    have := mul_mod_pow (a := y) hm'
    rwa [hmm] at this
  rw [e4, e5, or_low hlt]
  congr 3
  have : (((y % 2 ^ m * 2 ^ (64 - m) : Nat) : Int) = 0) ↔ y % 2 ^ m = 0 := by
    constructor
    · intro h
      have h' : y % 2 ^ m * 2 ^ (64 - m) = 0 := by omega
      rcases Nat.mul_eq_zero.1 h' with h | h
      · exact h
      · omega
    · intro h
      rw [h, Nat.zero_mul]
      rfl
  simp only [this, ne_eq, decide_not]
theorem mac {x y o c : Nat} (hx : x < 4294967296) (hy : y < 4294967296) (ho : o < 4294967296) (hc : c < 4294967296) : addI .u64 (addI .u64 (mulI .u64 (x : Int) (y : Int)) (o : Int)) (c : Int) = ((x * y + o + c : Nat) : Int) ∧ x * y + o + c < 18446744073709551616 := by
  have h1 : x * y ≤ 4294967295 * 4294967295 := Nat.mul_le_mul (by omega) (by omega)
  have h2 : ((x * y : Nat) : Int) = (x : Int) * (y : Int) := Int.natCast_mul x y
  rw [mulI_u64, ← h2, addI_u64, addI_u64]
  generalize x * y = p at *
  omega
theorem lo32 {n : Nat} (h : n < 18446744073709551616) : andI .u64 (n : Int) 4294967295 = ((n % 4294967296 : Nat) : Int) := by
  have := andI_u64 n 4294967295 h (by omega)
  have e := and_low n 32
  rw [show (2 : Nat) ^ 32 - 1 = 4294967295 from rfl, show (2 : Nat) ^ 32 = 4294967296 from rfl] at e
  rw [e] at this
  exact this
theorem hi32 {n : Nat} (h : n < 18446744073709551616) : shrI .u64 (n : Int) 32 = ((n / 4294967296 : Nat) : Int) := shrI_u64 n 32 h
theorem glue {a b : Nat} (ha : a < 4294967296) (hb : b < 4294967296) : orI .u64 (shlI .u64 (a : Int) 32) (b : Int) = ((a * 4294967296 + b : Nat) : Int) := by
  have h1 := shlI_u64 a 32
  have e : a * 2 ^ 32 % 18446744073709551616 = a * 2 ^ 32 := Nat.mod_eq_of_lt (by omega)
  rw [show ((32 : Nat) : Int) = 32 from rfl, e] at h1
  rw [h1, orI_u64 _ _ (by omega) (by omega), or_low (show b < 2 ^ 32 from by omega)]
theorem wMul_law {a b : Int} {t : Int × Int} (h : wMulF (a, b) = some t) : ∃ k : Nat, wMul_b0 a b = some t := by
  obtain ⟨⟨ha, hb⟩, rfl⟩ := gu_eq.1 h
  dsimp only at *
  obtain ⟨x, rfl, hx⟩ := ha.nat
  obtain ⟨y, rfl, hy⟩ := hb.nat
  refine ⟨0, ?_⟩
  rw [wMul_b0, lo32 hx, lo32 hy, hi32 hx, hi32 hy]
  have bx0 : x % 4294967296 < 4294967296 := by omega
  have bx1 : x / 4294967296 < 4294967296 := by omega
  have by0 : y % 4294967296 < 4294967296 := by omega
  have by1 : y / 4294967296 < 4294967296 := by omega
  have hxx : x = x % 4294967296 + 4294967296 * (x / 4294967296) := by omega
  have hyy : y = y % 4294967296 + 4294967296 * (y / 4294967296) := by omega
  generalize x % 4294967296 = x0 at *
  generalize x / 4294967296 = x1 at *
  generalize y % 4294967296 = y0 at *
  generalize y / 4294967296 = y1 at *
  obtain ⟨e1, b1⟩ := mac (o := 0) (c := 0) bx0 by0 (by omega) (by omega)
  rw [show ((0 : Nat) : Int) = 0 from rfl] at e1
  rw [e1, hi32 b1, lo32 b1]
  obtain ⟨e2, b2⟩ := mac (o := 0) (c := (x0 * y0 + 0 + 0) / 4294967296) bx0 by1 (by omega) (by omega)
  rw [show ((0 : Nat) : Int) = 0 from rfl] at e2
  rw [e2, hi32 b2, lo32 b2]
  obtain ⟨e3, b3⟩ := mac (o := (x0 * y1 + 0 + (x0 * y0 + 0 + 0) / 4294967296) % 4294967296) (c := 0) bx1 by0 (by omega) (by omega)
  rw [show ((0 : Nat) : Int) = 0 from rfl] at e3
  rw [e3, hi32 b3, lo32 b3]
  obtain ⟨e4, b4⟩ := mac (o := (x0 * y1 + 0 + (x0 * y0 + 0 + 0) / 4294967296) / 4294967296) (c := (x1 * y0 + (x0 * y1 + 0 + (x0 * y0 + 0 + 0) / 4294967296) % 4294967296 + 0) / 4294967296) bx1 by1 (by omega) (by omega)
  rw [e4, hi32 b4, lo32 b4, glue (by omega) (by omega), glue (by omega) (by omega)]
  have key : x * y = x0 * y0 + 4294967296 * (x0 * y1 + x1 * y0) + 18446744073709551616 * (x1 * y1) := by
    rw [hxx, hyy]
    grind
  have c1 : (x : Int) * (y : Int) = ((x * y : Nat) : Int) := by simp
  rw [c1, key]
  clear key c1 e1 e2 e3 e4 hxx hyy
  generalize x0 * y0 = p at *
  generalize x0 * y1 = q at *
  generalize x1 * y0 = r at *
  generalize x1 * y1 = s at *
  simp only [Option.some.injEq, Prod.mk.injEq]
  omega
theorem wAdd_ok : CtrOk Go.Proofs.Tryz.prog 117 (mkF [.int .u64, .int .u64, .int .u64] [.int .u64, .int .u64] wAddF) := by
  refine mkF_ok (c := bodyOf Go.Proofs.Tryz.f117) (tab := S.tab) (cts := []) (res := [6, 7]) tab_ok hm trivial Go.Proofs.Tryz.func117 (by kernel_rfl) (by kernel_rfl) (by kernel_rfl) (by kernel_rfl) (by kernel_rfl) ?_
  rintro ⟨a, b, c⟩ t h
  obtain ⟨k, hk⟩ := wAdd_law h
  exact ⟨wAdd_h, 3000, k, (wAdd_ev k a b c).trans hk⟩
theorem wSub_ok : CtrOk Go.Proofs.Tryz.prog 111 (mkF [.int .u64, .int .u64, .int .u64] [.int .u64, .int .u64] wSubF) := by
  refine mkF_ok (c := bodyOf Go.Proofs.Tryz.f111) (tab := S.tab) (cts := []) (res := [6, 7]) tab_ok hm trivial Go.Proofs.Tryz.func111 (by kernel_rfl) (by kernel_rfl) (by kernel_rfl) (by kernel_rfl) (by kernel_rfl) ?_
  rintro ⟨a, b, c⟩ t h
  obtain ⟨k, hk⟩ := wSub_law h
  exact ⟨wSub_h, 3000, k, (wSub_ev k a b c).trans hk⟩
theorem wCmp_ok : CtrOk Go.Proofs.Tryz.prog 110 (mkF [.int .u64, .int .u64, .int .u64, .int .u64] [.int .i64] wCmpF) := by
  refine mkF_ok (c := bodyOf Go.Proofs.Tryz.f110) (tab := S.tab) (cts := []) (res := [8]) tab_ok hm trivial Go.Proofs.Tryz.func110 (by kernel_rfl) (by kernel_rfl) (by kernel_rfl) (by kernel_rfl) (by kernel_rfl) ?_
  rintro ⟨a, b, c, d⟩ t h
  obtain ⟨k, hk⟩ := wCmp_law h
  exact ⟨wCmp_h, 3000, k, (wCmp_ev k a b c d).trans hk⟩
theorem wWithin_ok : CtrOk Go.Proofs.Tryz.prog 114 (mkF [.int .i64] [.int .i64] wWithinF) := by
  refine mkF_ok (c := bodyOf Go.Proofs.Tryz.f114) (tab := S.tab) (cts := []) (res := [2]) tab_ok hm trivial Go.Proofs.Tryz.func114 (by kernel_rfl) (by kernel_rfl) (by kernel_rfl) (by kernel_rfl) (by kernel_rfl) ?_
  rintro a t h
  obtain ⟨k, hk⟩ := wWithin_law h
  exact ⟨wWithin_h, 3000, k, (wWithin_ev k a).trans hk⟩
theorem wLen_ok : CtrOk Go.Proofs.Tryz.prog 113 (mkF [.int .u64] [.int .i64] wLenF) := by
  refine mkF_ok (c := bodyOf Go.Proofs.Tryz.f113) (tab := S.tab) (cts := []) (res := [2]) tab_ok hm trivial Go.Proofs.Tryz.func113 (by kernel_rfl) (by kernel_rfl) (by kernel_rfl) (by kernel_rfl) (by kernel_rfl) ?_
  rintro a t h
  obtain ⟨k, hk⟩ := wLen_law h
  exact ⟨wLen_h, 3000, k, (wLen_ev k a).trans hk⟩
theorem wShl_ok : CtrOk Go.Proofs.Tryz.prog 101 (mkF [.int .u64, .int .u64, .int .i64] [.int .u64, .int .u64] wShlF) := by
  refine mkF_ok (c := bodyOf Go.Proofs.Tryz.f101) (tab := S.tab) (cts := [(114, mkF [.int .i64] [.int .i64] wWithinF)]) (res := [6, 7]) tab_ok hm ⟨wWithin_ok, trivial⟩ Go.Proofs.Tryz.func101 (by kernel_rfl) (by kernel_rfl) (by kernel_rfl) (by kernel_rfl) (by kernel_rfl) ?_
  rintro ⟨a, b, c⟩ t h
  obtain ⟨k, hk⟩ := wShl_law h
  exact ⟨wShl_h, 3000, k, (wShl_ev k a b c).trans hk⟩
theorem wShr_ok : CtrOk Go.Proofs.Tryz.prog 126 (mkF [.int .u64, .int .u64, .int .i64] [.int .u64, .int .u64, .bool] wShrF) := by
  refine mkF_ok (c := bodyOf Go.Proofs.Tryz.f126) (tab := S.tab) (cts := [(114, mkF [.int .i64] [.int .i64] wWithinF)]) (res := [6, 7, 8]) tab_ok hm ⟨wWithin_ok, trivial⟩ Go.Proofs.Tryz.func126 (by kernel_rfl) (by kernel_rfl) (by kernel_rfl) (by kernel_rfl) (by kernel_rfl) ?_
  rintro ⟨a, b, c⟩ t h
  obtain ⟨k, hk⟩ := wShr_law h
  exact ⟨wShr_h, 3000, k, (wShr_ev k a b c).trans hk⟩
theorem wMul_ok : CtrOk Go.Proofs.Tryz.prog 116 (mkF [.int .u64, .int .u64] [.int .u64, .int .u64] wMulF) := by
  refine mkF_ok (c := bodyOf Go.Proofs.Tryz.f116) (tab := S.tab) (cts := []) (res := [4, 5]) tab_ok hm trivial Go.Proofs.Tryz.func116 (by kernel_rfl) (by kernel_rfl) (by kernel_rfl) (by kernel_rfl) (by kernel_rfl) ?_
  rintro ⟨a, b⟩ t h
  obtain ⟨k, hk⟩ := wMul_law h
  exact ⟨wMul_h, 3000, k, (wMul_ev k a b).trans hk⟩
end Go.RX.S
