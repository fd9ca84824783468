/- plumblaw03/outright: the laws' contracts. -/
import Derived.Test.YtandibmpaamfbaaWi
set_option linter.unusedVariables false
set_option linter.unusedSimpArgs false
namespace Go.RX.S
open Go Go.RX

theorem boundedF_ok {a : List Int} (ha : W64 a) (n : Nat) (hn : n ≤ 17592186044416) : boundedF (a, (n : Int)) = some (a.take n) := by
  rw [boundedF, gu_pos ⟨ha, by show (0 : Int) ≤ (n : Int); omega, by show (n : Int) ≤ _; omega⟩, Int.toNat_natCast]
theorem V_bounded {a : List Int} (ha : W64 a) {n : Nat} (hn : n ≤ 17592186043904) : L (a.take n) := ⟨ha.take n, by rw [List.length_take]; omega⟩
theorem val_bounded {a : List Int} (ha : W64 a) (n : Nat) : val (a.take n) < 18446744073709551616 ^ n := val_take_lt ha n
theorem timesF_ok {x y z : List Int} (hx : V x) (hy : V y) (hz : V z) (h1 : val x * val y + val z < Lim) : timesF (x, y, z) = some (can (val x * val y + val z), true) := by
  rw [timesF, gu_pos ⟨hx, hy, hz⟩]
  dsimp only
  rw [timesV, if_pos (by omega), okp, if_pos h1]
theorem zeroF_ok {x : List Int} (hx : V x) : zeroF x = some (decide (val x = 0)) := gu_pos hx
theorem liveF_ok : liveF PUnit.unit = some true := gu_pos trivial
theorem n0 : numF 0 = some 0 := numF_ok (by unfold I64; omega)
theorem n30 : numF 30 = some 30 := numF_ok (by unfold I64; omega)
theorem n31 : numF 31 = some 31 := numF_ok (by unfold I64; omega)
theorem n21 : numF 21 = some 21 := numF_ok (by unfold I64; omega)
theorem DivModF_pos {x y : List Int} (hx : V x) (hy : V y) (h : val y ≠ 0) : DivModF (x, y) = some (can (val x / val y), can (val x % val y), 0) := by rw [DivModF_ok hx hy, if_neg h]
theorem DivModF_zero {x y : List Int} (hx : V x) (hy : V y) (h : val y = 0) : DivModF (x, y) = some ([], [], 30) := by rw [DivModF_ok hx hy, if_pos h]
theorem qSmallF_pos {x : List Int} {d : Nat} (hx : V x) (hd : d < 18446744073709551616) (h : d ≠ 0) : qSmallF (x, (d : Int)) = some (can (val x / d), ((val x % d : Nat) : Int), 0) := by
  rw [qSmallF, gu_pos ⟨hx, Wd.of hd⟩]
  dsimp only
  rw [if_neg (by omega), Int.toNat_natCast]
theorem qSmallF_zero {x : List Int} (hx : V x) : qSmallF (x, 0) = some ([], 0, 30) := by
  rw [qSmallF, gu_pos ⟨hx, Wd_zero⟩]
  rfl
theorem nFromF_ok' {n : Nat} (h : n < 18446744073709551616) : nFromF (n : Int) = some (can n) := by rw [nFromF, gu_pos (Wd.of h), Int.toNat_natCast]

theorem lt_pow_more {a n m : Nat} (h : a < 18446744073709551616 ^ n) : a < 18446744073709551616 ^ (n + m) := Nat.lt_of_lt_of_le h (Nat.pow_le_pow_right (by omega) (Nat.le_add_right n m))
theorem muladd_lt_pow {a b c n : Nat} (ha : a < 18446744073709551616 ^ n) (hb : b < 18446744073709551616 ^ n) (hc : c < 18446744073709551616 ^ (n + n)) : a * b + c < 18446744073709551616 ^ (n + n + 1) := add_lt_pow (m := 0) (mul_lt_pow ha hb) hc
theorem one_lt_W {n : Nat} (h : 0 < n) : 1 < 18446744073709551616 ^ n := Nat.one_lt_pow (by omega) (by omega)
theorem mul1_lt_pow {a n : Nat} (ha : a < 18446744073709551616 ^ n) (h : 0 < n) : a * a + 1 < 18446744073709551616 ^ (n + n + 1) := muladd_lt_pow ha ha (one_lt_W (by omega))
theorem two_pow_le {n m : Nat} (h : n ≤ m) : 2 ^ n ≤ 2 ^ m := Nat.pow_le_pow_right (by omega) h
theorem succ_lt_pow {a n : Nat} (h : a < 18446744073709551616 ^ n) : a + 1 < 18446744073709551616 ^ (n + 1) := by
  rw [Nat.pow_succ]
  omega
theorem QuotDivides_law {a b : List Int} {t : Bool} (h : QuotDividesF (a, b) = some t) : ∃ k : Nat, QuotDivides_b0 a b = some t := by
  obtain ⟨⟨ha, hb⟩, rfl⟩ := gu_eq.1 h
  dsimp only at *
  refine ⟨0, ?_⟩
  have b1 := boundedF_ok ha 1000 (by omega)
  have b2 := boundedF_ok hb 1000 (by omega)
  have hx := (V_bounded ha (n := 1000) (by omega)).V
  have hy := (V_bounded hb (n := 1000) (by omega)).V
  have hxl := lim_of (val_bounded ha 1000) (by omega)
  have hyl := lim_of (val_bounded hb 1000) (by omega)
  rw [show ((1000 : Nat) : Int) = 1000 from rfl] at b1 b2
  rw [QuotDivides_b0, liveF_ok, Option.bind_some, b1, b2]
  simp only [Option.bind_some, Bool.not_true, cond_f]
  generalize a.take 1000 = x at *
  generalize b.take 1000 = y at *
  by_cases c : val y = 0
  · rw [DivModF_zero hx hy c, zeroF_ok hy, decide_eq_true c]
    simp only [Option.bind_some, cond_t, n30, decide_true, List.length_nil, Int.natCast_zero]
  · have hdm := Nat.div_add_mod (val x) (val y)
    have hml := Nat.mod_lt (val x) (show 0 < val y by omega)
    have hq : val x / val y < Lim := Nat.lt_of_le_of_lt (Nat.div_le_self _ _) hxl
    have hr : val x % val y < Lim := by omega
    have hsum : val x / val y * val y + val x % val y = val x := by rw [Nat.mul_comm]; exact hdm
    have ht := timesF_ok (V_can hq) hy (V_can hr) (by rw [val_can, val_can, hsum]; exact hxl)
    rw [val_can, val_can, hsum] at ht
    have hc1 := nCmpF_U (V_can hxl).U hx.U
    have hc2 := nCmpF_U (V_can hr).U hy.U
    rw [val_can, sgn_self] at hc1
    rw [val_can, sgn_lt hml] at hc2
    rw [DivModF_pos hx hy c, zeroF_ok hy, decide_eq_false c]
    simp only [Option.bind_some, cond_f, ht, n0, decide_true, Bool.not_true, hc1, hc2, normalF_can hq, normalF_can hr]
    rw [decide_eq_false (show ¬ (-1 : Int) ≥ 0 by decide), cond_f]
    -- by one word
    have hne : y ≠ [] := by rintro rfl; exact c rfl
    obtain ⟨y0, yr, rfl⟩ : ∃ a l, y = a :: l := by cases y with
      | nil => exact absurd rfl hne
      | cons a l => exact ⟨a, l, rfl⟩
    obtain ⟨w, rfl, hw⟩ := Wd.nat (W64.cons.1 hy.1).1
    have hin : inRange (0 : Int) ((w : Int) :: yr).length = true := inR (i := 0) (by simp)
    have hrd : rdI ((w : Int) :: yr) 0 = (w : Int) := rfl
    rw [hin, cond_t, hrd, cond_dec]
    by_cases c0 : (w : Int) = 0
    · rw [if_pos c0, qSmallF_zero hx]
      simp only [Option.bind_some, n30, decide_true]
    · have hw0 : w ≠ 0 := by omega
      have h1 : V (List.take 1 ((w : Int) :: yr)) := by rw [List.take_succ_cons, List.take_zero]; exact V_word hw
      have h2 : val (List.take 1 ((w : Int) :: yr)) = w := by rw [List.take_succ_cons, List.take_zero, val_word]
      have hD := DivModF_pos hx h1 (by rw [h2]; exact hw0)
      rw [h2] at hD
      have hm2 := Nat.mod_lt (val x) (show 0 < w by omega)
      have hq2 : val x / w < Lim := Nat.lt_of_le_of_lt (Nat.div_le_self _ _) hxl
      have hr2 : val x % w < Lim := small_Lim (by omega)
      rw [if_neg c0, cond_t, qSmallF_pos hx hw hw0, Option.bind_some, decide_eq_true (show (1 : Int) ≤ ((((w : Int) :: yr).length : Nat) : Int) by rw [List.length_cons]; omega), cond_t, hD]
      simp only [Option.bind_some, n0, decide_true, cond_t, sameF_can hq2, sameF_can hr2, nFromF_ok' (show val x % w < 18446744073709551616 by omega)]
      congr 1
      rw [decide_eq_true_eq]
      omega

theorem QuotBack_law {a b c : List Int} {t : Bool} (h : QuotBackF (a, b, c) = some t) : ∃ k : Nat, QuotBack_b0 a b c = some t := by
  obtain ⟨⟨ha, hb, hc⟩, rfl⟩ := gu_eq.1 h
  dsimp only at *
  refine ⟨0, ?_⟩
  have b1 := boundedF_ok ha 1000 (by omega)
  have b2 := boundedF_ok hb 1000 (by omega)
  have b3 := boundedF_ok hc 1000 (by omega)
  have hx := (V_bounded ha (n := 1000) (by omega)).V
  have hy := (V_bounded hb (n := 1000) (by omega)).V
  have hz := (V_bounded hc (n := 1000) (by omega)).V
  have hxl := val_bounded ha 1000
  have hyl := val_bounded hb 1000
  rw [show ((1000 : Nat) : Int) = 1000 from rfl] at b1 b2 b3
  rw [QuotBack_b0, liveF_ok, Option.bind_some, b1, b2, b3]
  simp only [Option.bind_some, Bool.not_true, cond_f]
  generalize a.take 1000 = x at *
  generalize b.take 1000 = y at *
  generalize c.take 1000 = z at *
  rw [nNormF_U hx.U, Option.bind_some]
  have hVx := V_val hx
  by_cases c0 : val y = 0
  · rw [zeroF_ok hy, decide_eq_true c0, DivModF_zero hVx hy c0]
    simp only [Option.bind_some, cond_t, n30, decide_true]
  · have hml := Nat.mod_lt (val z) (show 0 < val y by omega)
    have hr2 : val z % val y < 18446744073709551616 ^ (1000 + 1000) := lt_pow_more (n := 1000) (m := 1000) (Nat.lt_trans hml hyl)
    have hs : val x * val y + val z % val y < 18446744073709551616 ^ (1000 + 1000 + 1) := muladd_lt_pow (n := 1000) hxl hyl hr2
    have hsl := lim_of hs (by omega)
    have hyL := lim_of hyl (by omega)
    have hxL := lim_of hxl (by omega)
    have hrl : val z % val y < Lim := by omega
    have ht := timesF_ok hVx hy (V_can hrl) (by rw [val_can, val_can]; exact hsl)
    rw [val_can, val_can] at ht
    have hD := DivModF_pos (V_can hsl) hy c0
    have e1 : (val x * val y + val z % val y) / val y = val x := by
      rw [Nat.mul_comm, Nat.mul_add_div (by omega), Nat.div_eq_of_lt hml, Nat.add_zero]
    have e2 : (val x * val y + val z % val y) % val y = val z % val y := by
      rw [Nat.mul_comm, Nat.mul_add_mod, Nat.mod_mod]
    rw [val_can, e1, e2] at hD
    have hc2 := nCmpF_U (V_can hrl).U hy.U
    rw [val_can, sgn_lt hml] at hc2
    rw [zeroF_ok hy, decide_eq_false c0, DivModF_pos hz hy c0]
    simp only [Option.bind_some, cond_f, ht, hD, n0, decide_true, cond_t, sameF_can hxL, sameF_can hrl, hc2]
    rfl

theorem powF_small {X : Nat} {n : Int} (h0 : 0 ≤ n) (hX : X ^ n.toNat < Lim) : powF X n = (can (X ^ n.toNat), 0) := by
  obtain ⟨m, rfl⟩ := Int.eq_ofNat_of_zero_le h0
  simp only [Int.ofNat_eq_natCast, Int.toNat_natCast] at *
  rw [powF, if_neg (by omega)]
  by_cases c : m = 0
  · rw [if_pos (by omega), c, Nat.pow_zero]
  · rw [if_neg (by omega)]
    by_cases c2 : X < 2
    · rw [if_pos c2]
      have : X ^ m = X := by
        have : X = 0 ∨ X = 1 := by omega
        rcases this with h | h
        · rw [h, Nat.zero_pow (by omega)]
        · rw [h, Nat.one_pow]
      rw [this]
    · rw [if_neg c2, Int.toNat_natCast, if_pos hX]
theorem pow_lim {X : Nat} (h : X < 18446744073709551616 ^ 8) {n : Nat} (hn : n ≤ 24) : X ^ n < Lim := by
  have h1 : X ^ n ≤ (18446744073709551616 ^ 8) ^ n := Nat.pow_le_pow_left (Nat.le_of_lt h) n
  rw [← Nat.pow_mul] at h1
  have h2 : (18446744073709551616 : Nat) ^ (8 * n) < 18446744073709551616 ^ 193 := Nat.pow_lt_pow_right (by omega) (by omega)
  exact lim_of (Nat.lt_of_le_of_lt h1 h2) (by omega)
theorem powF_huge {X : Nat} (h : ¬ X < 2) : powF X 4611686018427387904 = ([], 21) := by
  obtain ⟨n, hn⟩ : ∃ n : Nat, (n : Int) = 4611686018427387904 := ⟨4611686018427387904, rfl⟩
  rw [← hn, powF, if_neg (by omega), if_neg (by omega), if_neg h, Int.toNat_natCast, if_neg]
  intro h1
  have h2 : 2 ^ n ≤ X ^ n := Nat.pow_le_pow_left (by omega) n
  have h3 : Lim ≤ 2 ^ n := by
    rw [Lim_pow]
    exact two_pow_le (by rw [lw_eq]; omega)
  omega
theorem withinF_12 {n : Int} (h : I64 n) : ∃ m : Nat, withinF (n, 12) = some (m : Int) ∧ m ≤ 12 := by
  have h1 := Int.emod_nonneg n (show (13 : Int) ≠ 0 by decide)
  have h2 := Int.emod_lt_of_pos n (show (0 : Int) < 13 by decide)
  refine ⟨(n % 13).toNat, ?_, by omega⟩
  rw [withinF, gu_pos ⟨h, by show (0 : Int) ≤ 12; decide, by show (12 : Int) < 4294967295; decide⟩]
  dsimp only
  rw [show (12 : Int) + 1 = 13 from rfl]
  congr 1
  omega
theorem qPowF_ok {x : List Int} (hx : V x) {n : Int} (h : I64 n) : qPowF (x, n) = some (powF (val x) n) := gu_pos ⟨hx, h⟩
theorem blen_le_one {v : Nat} : ((blen v : Nat) : Int) ≤ 1 ↔ v < 2 := by
  have := blen_le_iff 1 v
  rw [Nat.pow_one] at this
  omega
theorem QuotPowers_law {a : List Int} {b c : Int} {t : Bool} (h : QuotPowersF (a, b, c) = some t) : ∃ k : Nat, QuotPowers_b0 a b c = some t := by
  obtain ⟨⟨ha, hb, hc⟩, rfl⟩ := gu_eq.1 h
  dsimp only at *
  refine ⟨0, ?_⟩
  have b1 := boundedF_ok ha 8 (by omega)
  have hx := (V_bounded ha (n := 8) (by omega)).V
  have hxl := val_bounded ha 8
  rw [show ((8 : Nat) : Int) = 8 from rfl] at b1
  obtain ⟨m, hm, hm12⟩ := withinF_12 hb
  obtain ⟨n, hn, hn12⟩ := withinF_12 hc
  rw [QuotPowers_b0, liveF_ok, Option.bind_some, b1, hm, hn]
  simp only [Option.bind_some, Bool.not_true, cond_f]
  generalize a.take 8 = x at *
  rw [nNormF_U hx.U, Option.bind_some]
  have hVx := V_val hx
  generalize val x = X at *
  have hI : ∀ i : Nat, i ≤ 24 → I64 (i : Int) := fun i hi => ⟨by omega, by omega⟩
  have hp : ∀ i : Nat, i ≤ 24 → qPowF (can X, (i : Int)) = some (can (X ^ i), 0) := by
    intro i hi
    have := powF_small (X := X) (n := (i : Int)) (by omega) (by rw [Int.toNat_natCast]; exact pow_lim hxl hi)
    rw [qPowF_ok hVx (hI i hi), val_can, this, Int.toNat_natCast]
  have e1 : addI .i64 (m : Int) (n : Int) = ((m + n : Nat) : Int) := by rw [addI_i64 (by omega)]; omega
  have e2 : subI .i64 (-1) (m : Int) = -1 - (m : Int) := subI_i64 (by omega)
  have p1 := hp 1 (by omega)
  have p0 := hp 0 (by omega)
  rw [Nat.pow_one, show ((1 : Nat) : Int) = 1 from rfl] at p1
  rw [Nat.pow_zero, show ((0 : Nat) : Int) = 0 from rfl] at p0
  have hXl := pow_lim hxl (n := 1) (by omega)
  rw [Nat.pow_one] at hXl
  have ht := timesF_ok (V_can (pow_lim hxl (n := m) (by omega))) (V_can (pow_lim hxl (n := n) (by omega))) V_emp (by rw [val_can, val_can, val_nil, Nat.add_zero, ← Nat.pow_add]; exact pow_lim hxl (by omega))
  rw [val_can, val_can, val_nil, Nat.add_zero, ← Nat.pow_add] at ht
  have hneg : qPowF (can X, -1 - (m : Int)) = some ([], 31) := by
    rw [qPowF_ok hVx ⟨by omega, by omega⟩, powF, if_pos (by omega)]
  have hone : sameF (can 1, [1]) = some true := by
    rw [sameF_ok (V_can (small_Lim (by omega))).U.2, can_one]
    simp
  have hbits : nBitsF (can X) = some ((blen X : Nat) : Int) := by rw [nBitsF_ok hVx, val_can]
  have hbig : qPowF (can X, 4611686018427387904) = some (powF X 4611686018427387904) := by
    rw [qPowF_ok hVx ⟨by decide, by decide⟩, val_can]
  simp only [hp m (by omega), hp n (by omega), e1, hp (m + n) (by omega), p1, p0, ht, Option.bind_some, n0, decide_true, Bool.not_true, cond_f, sameF_can (pow_lim hxl (show m + n ≤ 24 by omega)), sameF_can hXl, hone, e2, hneg, hbits, hbig, n31, cond_t, blen_le_one]
  by_cases c2 : X < 2
  · have : powF X 4611686018427387904 = (can X, 0) := by
      rw [powF, if_neg (by decide), if_neg (by decide), if_pos c2]
    rw [this]
    simp only [c2, decide_true, cond_t, n0, Option.bind_some, sameF_can hXl]
  · rw [powF_huge c2]
    simp only [c2, decide_false, cond_f, n21, Option.bind_some, decide_true, cond_t, List.length_nil]
    rfl
theorem RootF_ok {x : List Int} (hx : L x) : RootF x = some (can (isq (val x)), decide (isq (val x) * isq (val x) = val x)) := gu_pos hx
theorem L_can {v : Nat} (h : v < Lim) : L (can v) := ⟨can_ok v, by have := can_len (n := lw) h; rw [lw_eq] at this; omega⟩
theorem isq_sq (n : Nat) : isq (n * n) = n := isq_unique (Nat.le_refl _) (by grind)
theorem isq_sq1 {n : Nat} (h : 0 < n) : isq (n * n + 1) = n := isq_unique (by omega) (by grind)
theorem QuotSquares_law {a : List Int} {t : Bool} (h : QuotSquaresF a = some t) : ∃ k : Nat, QuotSquares_b0 a = some t := by
  obtain ⟨ha, rfl⟩ := gu_eq.1 h
  refine ⟨0, ?_⟩
  have b1 := boundedF_ok ha 500 (by omega)
  have hL := V_bounded ha (n := 500) (by omega)
  have hx := hL.V
  have hxl := val_bounded ha 500
  rw [show ((500 : Nat) : Int) = 500 from rfl] at b1
  rw [QuotSquares_b0, liveF_ok, Option.bind_some, b1]
  simp only [Option.bind_some, Bool.not_true, cond_f]
  generalize a.take 500 = x at *
  have hs := isq_spec (val x)
  have hsx : isq (val x) ≤ val x := by
    rcases Nat.eq_zero_or_pos (isq (val x)) with h | h
    · omega
    · have : isq (val x) * 1 ≤ isq (val x) * isq (val x) := Nat.mul_le_mul_left _ h
      omega
  have hXL := lim_of hxl (by omega)
  have hsl : isq (val x) < 18446744073709551616 ^ 500 := by omega
  have hsL := lim_of hsl (by omega)
  have hs1 : isq (val x) + 1 < 18446744073709551616 ^ (500 + 1) := succ_lt_pow (n := 500) hsl
  have hs1L := lim_of hs1 (by omega)
  have hsqL : isq (val x) * isq (val x) < Lim := by omega
  have hnL := lim_of (mul_lt_pow hs1 hs1) (by omega)
  have hbL := lim_of (mul_lt_pow hxl hxl) (by omega)
  have hmL := lim_of (mul1_lt_pow hxl (by omega)) (by omega)
  have hV1 : V [1] := V_lit (by decide) (by decide)
  have hv1 : val [1] = 1 := rfl
  have t1 := timesF_ok (V_can hsL) (V_can hsL) V_emp (by rw [val_can, val_nil]; exact hsqL)
  have ad := nAddF_V (V_can hsL) hV1
  have t2 := timesF_ok (V_can hs1L) (V_can hs1L) V_emp (by rw [val_can, val_nil]; exact hnL)
  have t3 := timesF_ok hx hx V_emp (by rw [val_nil]; exact hbL)
  have t4 := timesF_ok hx hx hV1 (by rw [hv1]; exact hmL)
  simp only [val_can, val_nil, Nat.add_zero] at t1 t2
  rw [val_can, hv1, bnd_lt hs1L] at ad
  rw [val_nil, Nat.add_zero] at t3
  rw [hv1] at t4
  have r1 := RootF_ok hL
  have r2 := RootF_ok (L_can hbL)
  have r3 := RootF_ok (L_can hmL)
  rw [val_can, isq_sq, decide_eq_true rfl] at r2
  rw [val_can] at r3
  have c1 := nCmpF_U (V_can hsqL).U hx.U
  have c2 := nCmpF_U (V_can hnL).U hx.U
  have c3 := nCmpF_U (V_can hXL).U hx.U
  have hu : val x ≤ isq (val x * val x + 1) := by
    rcases Nat.lt_or_ge (isq (val x * val x + 1)) (val x) with h | h
    · have h1 := (isq_spec (val x * val x + 1)).2
      have h2 : (isq (val x * val x + 1) + 1) * (isq (val x * val x + 1) + 1) ≤ val x * val x := Nat.mul_le_mul h h
      omega
    · exact h
  have huL : isq (val x * val x + 1) < Lim := by
    have h1 := (isq_spec (val x * val x + 1)).1
    rcases Nat.eq_zero_or_pos (isq (val x * val x + 1)) with h | h
    · rw [h]; exact Lim_pos
    · have : isq (val x * val x + 1) * 1 ≤ isq (val x * val x + 1) * isq (val x * val x + 1) := Nat.mul_le_mul_left _ h
      omega
  have c4 := nCmpF_U (V_can huL).U hx.U
  rw [val_can] at c1 c2 c3 c4
  rw [sgn_self] at c3
  rw [sgn_gt hs.2] at c2
  simp only [r1, Option.bind_some, t1, ad, t2, Bool.not_true, cond_f, n0, decide_true, normalF_can hsL, c1, c2, t3, r2, t4, r3, c3, c4]
  have d1 : ¬ sgn (isq (val x) * isq (val x)) (val x) > 0 := by
    have := sgn_le.2 hs.1
    omega
  have d2 : ¬ ((1 : Int) ≤ 0) := by decide
  have d3 : (isq (val x) * isq (val x) = val x) = (sgn (isq (val x) * isq (val x)) (val x) = 0) := propext sgn_eq_zero.symm
  have d4 : ¬ sgn (isq (val x * val x + 1)) (val x) < 0 := by
    rw [sgn, if_neg (by omega)]
    split <;> decide
  have d5 : (decide (isq (val x) * isq (val x) = val x) = decide (sgn (isq (val x) * isq (val x)) (val x) = 0)) := by
    rw [Bool.eq_iff_iff, decide_eq_true_eq, decide_eq_true_eq, d3]
  rw [decide_eq_false d1, cond_f, decide_eq_false d2, cond_f, decide_eq_true d5, decide_eq_false d4]
  simp only [Bool.not_true, cond_f, zeroF_ok hx, Option.bind_some]
  by_cases c0 : val x = 0
  · rw [decide_eq_true c0, cond_t]
  · have h1 := isq_sq1 (n := val x) (by omega)
    have h2 : ¬ (val x * val x = val x * val x + 1) := by omega
    rw [decide_eq_false c0, cond_f, h1, decide_eq_false h2, sgn_self]
    rfl

theorem GcdF_V {x y : List Int} (hx : V x) (hy : V y) : GcdF (x, y) = some (can (Nat.gcd (val x) (val y))) := gu_pos ⟨hx, hy⟩
theorem dividesF_ok {x y : List Int} (hx : V x) (hy : V y) (h : val x ≠ 0) (hd : val x ∣ val y) : dividesF (x, y) = some true := by
  rw [dividesF, gu_pos ⟨hx, hy, h⟩]
  dsimp only
  rw [decide_eq_true (Nat.mod_eq_zero_of_dvd hd)]
theorem gcd_left {x y : Nat} (hd : Nat.gcd x y ≠ 0) : Nat.gcd (x / Nat.gcd x y) (y / Nat.gcd x y) = 1 := by
  have h := Nat.gcd_div (Nat.gcd_dvd_left x y) (Nat.gcd_dvd_right x y)
  rw [h, Nat.div_self (by omega)]
theorem QuotCommon_law {a b c : List Int} {t : Bool} (h : QuotCommonF (a, b, c) = some t) : ∃ k : Nat, QuotCommon_b0 a b c = some t := by
  obtain ⟨⟨ha, hb, hc⟩, rfl⟩ := gu_eq.1 h
  dsimp only at *
  refine ⟨0, ?_⟩
  have b1 := boundedF_ok ha 200 (by omega)
  have b2 := boundedF_ok hb 200 (by omega)
  have b3 := boundedF_ok hc 200 (by omega)
  have hg := (V_bounded ha (n := 200) (by omega)).V
  have hA := (V_bounded hb (n := 200) (by omega)).V
  have hB := (V_bounded hc (n := 200) (by omega)).V
  have hgl := val_bounded ha 200
  have hAl := val_bounded hb 200
  have hBl := val_bounded hc 200
  rw [show ((200 : Nat) : Int) = 200 from rfl] at b1 b2 b3
  rw [QuotCommon_b0, liveF_ok, Option.bind_some, b1, b2, b3]
  simp only [Option.bind_some, Bool.not_true, cond_f]
  generalize a.take 200 = g at *
  generalize b.take 200 = u at *
  generalize c.take 200 = v at *
  have hxL := lim_of (mul_lt_pow hgl hAl) (by omega)
  have hyL := lim_of (mul_lt_pow hgl hBl) (by omega)
  have t1 := timesF_ok hg hA V_emp (by rw [val_nil]; exact hxL)
  have t2 := timesF_ok hg hB V_emp (by rw [val_nil]; exact hyL)
  rw [val_nil, Nat.add_zero] at t1 t2
  rw [t1, Option.bind_some, t2, Option.bind_some]
  dsimp only
  have hGx : val g ∣ val g * val u := Nat.dvd_mul_right _ _
  have hGy : val g ∣ val g * val v := Nat.dvd_mul_right _ _
  have hG0 : val g = 0 → val g * val u = 0 ∧ val g * val v = 0 := fun h => by rw [h, Nat.zero_mul, Nat.zero_mul]; exact ⟨rfl, rfl⟩
  obtain ⟨x, hx⟩ : ∃ x, val g * val u = x := ⟨_, rfl⟩
  obtain ⟨y, hy⟩ : ∃ y, val g * val v = y := ⟨_, rfl⟩
  rw [hx] at hxL hGx hG0 ⊢
  rw [hy] at hyL hGy hG0 ⊢
  have hVx := V_can hxL
  have hVy := V_can hyL
  have gd1 := GcdF_V hVx hVy
  have gd2 := GcdF_V hVy hVx
  rw [val_can, val_can] at gd1 gd2
  rw [Nat.gcd_comm] at gd2
  have hdx := Nat.gcd_dvd_left x y
  have hdy := Nat.gcd_dvd_right x y
  have hGd : val g ∣ Nat.gcd x y := Nat.dvd_gcd hGx hGy
  have hlow : LowestF (can x, can y) = some (can (x / Nat.gcd x y), can (y / Nat.gcd x y)) := by
    rw [LowestF, gu_pos ⟨hVx, hVy⟩]
    simp only [val_can]
  have hd0 : Nat.gcd x y = 0 ↔ x = 0 ∧ y = 0 := Nat.gcd_eq_zero_iff
  have hgl := @gcd_left x y
  have hdL : Nat.gcd x y < Lim := by
    rcases Nat.eq_zero_or_pos x with h | h
    · rw [h, Nat.gcd_zero_left]; exact hyL
    · exact Nat.lt_of_le_of_lt (Nat.gcd_le_left _ h) hxL
  have hgr : y ≠ 0 → Nat.gcd y (x % y) = Nat.gcd x y := fun _ => by rw [Nat.gcd_comm y, ← Nat.gcd_rec, Nat.gcd_comm]
  have hgz : y = 0 → Nat.gcd x y = x := fun h => by rw [h, Nat.gcd_zero_right]
  obtain ⟨d, hd⟩ : ∃ d, Nat.gcd x y = d := ⟨_, rfl⟩
  rw [hd] at gd1 gd2 hdx hdy hGd hlow hd0 hgl hdL hgr hgz
  have hVd := V_can hdL
  simp only [gd1, gd2, Option.bind_some, Bool.not_true, cond_f, normalF_can hdL, sameF_can hdL, decide_true, zeroF_ok hVx, zeroF_ok hVy, zeroF_ok hVd, val_can]
  by_cases c0 : x = 0 ∧ y = 0
  · have : d = 0 := hd0.2 c0
    rw [decide_eq_true c0.1, cond_t, decide_eq_true c0.2, cond_t, this, can_zero]
    rfl
  · have hdne : d ≠ 0 := fun h => c0 (hd0.1 h)
    have hGne : val g ≠ 0 := fun h => c0 (hG0 h)
    have f1 := dividesF_ok hVd hVx (by rw [val_can]; exact hdne) (by rw [val_can, val_can]; exact hdx)
    have f2 := dividesF_ok hVd hVy (by rw [val_can]; exact hdne) (by rw [val_can, val_can]; exact hdy)
    have f3 := dividesF_ok hg hVd hGne (by rw [val_can]; exact hGd)
    have hpL : x / d < Lim := Nat.lt_of_le_of_lt (Nat.div_le_self _ _) hxL
    have hqL : y / d < Lim := Nat.lt_of_le_of_lt (Nat.div_le_self _ _) hyL
    have m1 : x / d * d = x := Nat.div_mul_cancel hdx
    have m2 : y / d * d = y := Nat.div_mul_cancel hdy
    have t3 := timesF_ok (V_can hpL) hVd V_emp (by rw [val_can, val_can, val_nil, m1]; exact hxL)
    have t4 := timesF_ok (V_can hqL) hVd V_emp (by rw [val_can, val_can, val_nil, m2]; exact hyL)
    rw [val_can, val_can, val_nil, m1, Nat.add_zero] at t3
    rw [val_can, val_can, val_nil, m2, Nat.add_zero] at t4
    have k1 := nCmpF_can hxL hxL
    have k2 := nCmpF_can hyL hyL
    have gd3 := GcdF_V (V_can hpL) (V_can hqL)
    rw [val_can, val_can, hgl hdne] at gd3
    have nf := nFromF_ok' (n := 1) (by omega)
    have k3 := nCmpF_can (u := 1) (v := 1) (small_Lim (by omega)) (small_Lim (by omega))
    rw [sgn_self] at k1 k2 k3
    rw [show ((1 : Nat) : Int) = 1 from rfl] at nf
    have tail : (bif decide (y = 0) then (nCmpF (can d, can x)).bind fun t => some (decide (t = 0)) else (DivModF (can x, can y)).bind fun t => (numF t.2.2).bind fun t_19 => bif decide (t_19 = 0) then (GcdF (can y, t.2.1)).bind fun t => (sameF (t, can d)).bind fun t => some t else some false) = some true := by
      by_cases cy : y = 0
      · rw [decide_eq_true cy, cond_t, hgz cy, k1]
        rfl
      · have hr : x % y < Lim := Nat.lt_trans (Nat.mod_lt _ (by omega)) hyL
        have hD := DivModF_pos hVx hVy (by rw [val_can]; exact cy)
        rw [val_can, val_can] at hD
        have gd4 := GcdF_V hVy (V_can hr)
        rw [val_can, val_can, hgr cy] at gd4
        rw [decide_eq_false cy, cond_f, hD]
        simp only [Option.bind_some, n0, decide_true, cond_t, gd4, sameF_can hdL]
    simp only [decide_eq_false hdne, cond_f, f1, f2, f3, hlow, t3, t4, Option.bind_some, Bool.not_true, k1, k2, gd3, nf, k3, decide_true, tail]
    by_cases cx : x = 0
    · have cy : ¬ y = 0 := fun h => c0 ⟨cx, h⟩
      rw [decide_eq_true cx, cond_t, decide_eq_false cy, cond_f]
    · rw [decide_eq_false cx, cond_f]
theorem QuotDivides_ok : CtrOk Go.Proofs.Try.prog 16 (mkF [.sl (.int .u64), .sl (.int .u64)] [.bool] QuotDividesF) := by
  refine mkF_ok (c := bodyOf Go.Proofs.Try.f16) (tab := S.tab) (cts := [(85, mkF [] [.bool] liveF), (86, mkF [.sl (.int .u64), .int .i64] [.sl (.int .u64)] boundedF), (75, mkF [.sl (.int .u64), .sl (.int .u64)] [.sl (.int .u64), .sl (.int .u64), .int .i64] DivModF), (88, mkF [.sl (.int .u64)] [.bool] zeroF), (49, mkF [.int .i64] [.int .i64] numF), (89, mkF [.sl (.int .u64), .sl (.int .u64), .sl (.int .u64)] [.sl (.int .u64), .bool] timesF), (33, mkF [.sl (.int .u64), .sl (.int .u64)] [.int .i64] nCmpF), (90, mkF [.sl (.int .u64)] [.bool] normalF), (77, mkF [.sl (.int .u64), .int .u64] [.sl (.int .u64), .int .u64, .int .i64] qSmallF), (48, mkF [.sl (.int .u64), .sl (.int .u64)] [.bool] sameF), (62, mkF [.int .u64] [.sl (.int .u64)] nFromF)]) (res := [4]) tab_ok hm ⟨live_ok, bounded_ok, DivMod_ok, zero_ok, num_ok, times_ok, nCmp_ok, normal3_ok, qSmall_ok, same3_ok, nFrom_ok, trivial⟩ Go.Proofs.Try.func16 (by kernel_rfl) (by kernel_rfl) (by kernel_rfl) (by kernel_rfl) (by kernel_rfl) ?_
  rintro ⟨a, b⟩ t h
  obtain ⟨k, hk⟩ := QuotDivides_law h
  exact ⟨QuotDivides_h, 3000, k, (QuotDivides_ev k a b).trans hk⟩

theorem QuotBack_ok : CtrOk Go.Proofs.Try.prog 17 (mkF [.sl (.int .u64), .sl (.int .u64), .sl (.int .u64)] [.bool] QuotBackF) := by
  refine mkF_ok (c := bodyOf Go.Proofs.Try.f17) (tab := S.tab) (cts := [(85, mkF [] [.bool] liveF), (32, mkZ [.sl (.int .u64)] .u64 nNormF), (86, mkF [.sl (.int .u64), .int .i64] [.sl (.int .u64)] boundedF), (88, mkF [.sl (.int .u64)] [.bool] zeroF), (75, mkF [.sl (.int .u64), .sl (.int .u64)] [.sl (.int .u64), .sl (.int .u64), .int .i64] DivModF), (49, mkF [.int .i64] [.int .i64] numF), (89, mkF [.sl (.int .u64), .sl (.int .u64), .sl (.int .u64)] [.sl (.int .u64), .bool] timesF), (48, mkF [.sl (.int .u64), .sl (.int .u64)] [.bool] sameF), (33, mkF [.sl (.int .u64), .sl (.int .u64)] [.int .i64] nCmpF)]) (res := [6]) tab_ok hm ⟨live_ok, nNormV_ok, bounded_ok, zero_ok, DivMod_ok, num_ok, times_ok, same3_ok, nCmp_ok, trivial⟩ Go.Proofs.Try.func17 (by kernel_rfl) (by kernel_rfl) (by kernel_rfl) (by kernel_rfl) (by kernel_rfl) ?_
  rintro ⟨a, b, c⟩ t h
  obtain ⟨k, hk⟩ := QuotBack_law h
  exact ⟨QuotBack_h, 3000, k, (QuotBack_ev k a b c).trans hk⟩

theorem QuotPowers_ok : CtrOk Go.Proofs.Try.prog 18 (mkF [.sl (.int .u64), .int .i64, .int .i64] [.bool] QuotPowersF) := by
  refine mkF_ok (c := bodyOf Go.Proofs.Try.f18) (tab := S.tab) (cts := [(85, mkF [] [.bool] liveF), (32, mkZ [.sl (.int .u64)] .u64 nNormF), (86, mkF [.sl (.int .u64), .int .i64] [.sl (.int .u64)] boundedF), (91, mkF [.int .i64, .int .i64] [.int .i64] withinF), (46, mkF [.sl (.int .u64), .int .i64] [.sl (.int .u64), .int .i64] qPowF), (89, mkF [.sl (.int .u64), .sl (.int .u64), .sl (.int .u64)] [.sl (.int .u64), .bool] timesF), (49, mkF [.int .i64] [.int .i64] numF), (48, mkF [.sl (.int .u64), .sl (.int .u64)] [.bool] sameF), (43, mkF [.sl (.int .u64)] [.int .i64] nBitsF)]) (res := [6]) tab_ok hm ⟨live_ok, nNormV_ok, bounded_ok, within_ok, qPow_ok, times_ok, num_ok, same3_ok, nBits_ok, trivial⟩ Go.Proofs.Try.func18 (by kernel_rfl) (by kernel_rfl) (by kernel_rfl) (by kernel_rfl) (by kernel_rfl) ?_
  rintro ⟨a, b, c⟩ t h
  obtain ⟨k, hk⟩ := QuotPowers_law h
  exact ⟨QuotPowers_h, 3000, k, (QuotPowers_ev k a b c).trans hk⟩

theorem QuotSquares_ok : CtrOk Go.Proofs.Try.prog 19 (mkF [.sl (.int .u64)] [.bool] QuotSquaresF) := by
  refine mkF_ok (c := bodyOf Go.Proofs.Try.f19) (tab := S.tab) (cts := [(85, mkF [] [.bool] liveF), (86, mkF [.sl (.int .u64), .int .i64] [.sl (.int .u64)] boundedF), (83, mkF [.sl (.int .u64)] [.sl (.int .u64), .bool] RootF), (89, mkF [.sl (.int .u64), .sl (.int .u64), .sl (.int .u64)] [.sl (.int .u64), .bool] timesF), (40, mkF [.sl (.int .u64), .sl (.int .u64)] [.sl (.int .u64), .int .i64] nAddF), (49, mkF [.int .i64] [.int .i64] numF), (90, mkF [.sl (.int .u64)] [.bool] normalF), (33, mkF [.sl (.int .u64), .sl (.int .u64)] [.int .i64] nCmpF), (88, mkF [.sl (.int .u64)] [.bool] zeroF)]) (res := [2]) tab_ok hm ⟨live_ok, bounded_ok, Root_ok, times_ok, nAdd_ok, num_ok, normal3_ok, nCmp_ok, zero_ok, trivial⟩ Go.Proofs.Try.func19 (by kernel_rfl) (by kernel_rfl) (by kernel_rfl) (by kernel_rfl) (by kernel_rfl) ?_
  rintro a t h
  obtain ⟨k, hk⟩ := QuotSquares_law h
  exact ⟨QuotSquares_h, 3000, k, (QuotSquares_ev k a).trans hk⟩

theorem QuotCommon_ok : CtrOk Go.Proofs.Try.prog 20 (mkF [.sl (.int .u64), .sl (.int .u64), .sl (.int .u64)] [.bool] QuotCommonF) := by
  refine mkF_ok (c := bodyOf Go.Proofs.Try.f20) (tab := S.tab) (cts := [(85, mkF [] [.bool] liveF), (86, mkF [.sl (.int .u64), .int .i64] [.sl (.int .u64)] boundedF), (89, mkF [.sl (.int .u64), .sl (.int .u64), .sl (.int .u64)] [.sl (.int .u64), .bool] timesF), (79, mkF [.sl (.int .u64), .sl (.int .u64)] [.sl (.int .u64)] GcdF), (90, mkF [.sl (.int .u64)] [.bool] normalF), (48, mkF [.sl (.int .u64), .sl (.int .u64)] [.bool] sameF), (88, mkF [.sl (.int .u64)] [.bool] zeroF), (92, mkF [.sl (.int .u64), .sl (.int .u64)] [.bool] dividesF), (81, mkF [.sl (.int .u64), .sl (.int .u64)] [.sl (.int .u64), .sl (.int .u64)] LowestF), (33, mkF [.sl (.int .u64), .sl (.int .u64)] [.int .i64] nCmpF), (62, mkF [.int .u64] [.sl (.int .u64)] nFromF), (75, mkF [.sl (.int .u64), .sl (.int .u64)] [.sl (.int .u64), .sl (.int .u64), .int .i64] DivModF), (49, mkF [.int .i64] [.int .i64] numF)]) (res := [6]) tab_ok hm ⟨live_ok, bounded_ok, times_ok, Gcd_ok, normal3_ok, same3_ok, zero_ok, divides_ok, Lowest_ok, nCmp_ok, nFrom_ok, DivMod_ok, num_ok, trivial⟩ Go.Proofs.Try.func20 (by kernel_rfl) (by kernel_rfl) (by kernel_rfl) (by kernel_rfl) (by kernel_rfl) ?_
  rintro ⟨a, b, c⟩ t h
  obtain ⟨k, hk⟩ := QuotCommon_law h
  exact ⟨QuotCommon_h, 3000, k, (QuotCommon_ev k a b c).trans hk⟩

end Go.RX.S
