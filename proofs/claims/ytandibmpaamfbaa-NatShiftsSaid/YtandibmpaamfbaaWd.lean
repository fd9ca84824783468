/- The document's shifts to the right, bits, zeros; NatShifts. -/
import Derived.Test.YtandibmpaamfbaaWc
set_option linter.unusedVariables false
set_option linter.unusedSimpArgs false
namespace Go.RX.S
open Go Go.RX

theorem gval_drop_div {b : Nat} (hb : 2 ≤ b) : ∀ (q : Nat) (l : List Int), Dg b l → gval b (l.drop q) = gval b l / b ^ q
  | 0, l, _ => by simp
  | q + 1, [], _ => by simp [gval]
  | q + 1, x :: xs, h => by
    rw [Dg.cons] at h
    rw [List.drop_succ_cons, gval_drop_div hb q xs h.2, gval_cons, Nat.pow_succ, Nat.mul_comm (b ^ q), ← Nat.div_div_eq_div_mul, Nat.add_mul_div_left _ _ (by omega), Nat.div_eq_of_lt (a := x.toNat) (by omega), Nat.zero_add]
theorem rem_16 (n : Nat) : remI (n : Int) 16 = ((n % 16 : Nat) : Int) := by
  rw [remI, Int.tmod_eq_emod_of_nonneg (by omega)]
  omega
theorem rShr_lost {n X : Nat} {t : List Int} (ht : t = gcan 65536 X) (hl : t.length ≤ 4000) {q : Nat} (hq : q < t.length) {R : Option (List Int × Bool × Int)} {K : Nat} (H : ∀ k', K ≤ k' → rShr_L28 k' (n : Int) t (q : Int) (decide (X % 65536 ^ q ≠ 0)) 1 0 = R) : ∀ (m i k : Nat), i + m = q → K + m + 1 ≤ k → rShr_L18 k (n : Int) t (q : Int) (decide (X % 65536 ^ i ≠ 0)) (i : Int) = R
  | m, i, 0, _, hk => by omega
  | 0, i, k + 1, hi, hk => by
    rw [rShr_L18, rShr_b18, cond_dec, if_neg (by omega), show i = q from by omega]
    exact H k (by omega)
  | m + 1, i, k + 1, hi, hk => by
    have hd : Dg 65536 t := by rw [ht]; exact gcan_ok b16 _
    have hg : gval 65536 t = X := by rw [ht]; exact gval_gcan b16 _
    have hdig := gdigit_val b16 i hd
    rw [hg] at hdig
    have hms : X % 65536 ^ (i + 1) = X % 65536 ^ i + 65536 ^ i * (t.getD i 0).toNat := by rw [Nat.pow_succ, Nat.mod_mul, hdig]
    have hp : 0 < 65536 ^ i := Nat.pow_pos (by omega)
    have ih := rShr_lost ht hl hq H m (i + 1) k (by omega) (by omega)
    have g := hd.get (by omega) i
    rw [rShr_L18, rShr_b18, cond_dec, if_pos (by omega), inc (by omega), cond_dec, inR (by omega), cond_t, rdI_nat]
    by_cases c : X % 65536 ^ i ≠ 0
    · rw [if_pos c]
      have e : decide (X % 65536 ^ (i + 1) ≠ 0) = true := by rw [decide_eq_true_eq]; omega
      rw [e] at ih
      exact ih
    · rw [if_neg c]
      have e : decide (X % 65536 ^ (i + 1) ≠ 0) = !decide (t.getD i 0 = 0) := by
        have c0 : X % 65536 ^ i = 0 := by omega
        rw [hms, c0, Nat.zero_add]
        by_cases c2 : t.getD i 0 = 0
        · rw [c2]
          simp
        · have : 65536 ^ i * (t.getD i 0).toNat ≠ 0 := by
            have := Nat.mul_pos hp (show 0 < (t.getD i 0).toNat by omega)
            omega
          simp only [c2, this, ne_eq, not_false_eq_true, decide_true, decide_false, Bool.not_false]
      rw [e] at ih
      exact ih
theorem rShr_pow {n : Nat} {t : List Int} {q : Nat} {lost : Bool} (hq : q < t.length) {R : Option (List Int × Bool × Int)} {K : Nat} (H : ∀ k', K ≤ k' → rShr_L40 k' t (lost || !decide (remI (t.getD q 0) ((2 ^ (n % 16) : Nat) : Int) = 0)) ((2 ^ (n % 16) : Nat) : Int) (q : Int) [] = R) : ∀ (m j k : Nat), j + m = n % 16 → K + m + 1 ≤ k → rShr_L28 k (n : Int) t (q : Int) lost ((2 ^ j : Nat) : Int) (j : Int) = R
  | m, j, 0, _, hk => by omega
  | 0, j, k + 1, hj, hk => by
    have hp := pow_pos2 j
    rw [rShr_L28, rShr_b28, rem_16, cond_dec, if_neg (by omega), inR hq, cond_t, rdI_nat, cond_ndec, if_neg (by omega)]
    have e : j = n % 16 := by omega
    have := H k (by omega)
    rw [← e] at this
    cases lost
    · exact this
    · exact this
  | m + 1, j, k + 1, hj, hk => by
    have hjp : 2 ^ j ≤ 2 ^ 15 := Nat.pow_le_pow_right (by omega) (by omega)
    have em : mulI .i64 ((2 ^ j : Nat) : Int) 2 = ((2 ^ (j + 1) : Nat) : Int) := by
      have := mulN (u := 2 ^ j) (v := 2) (by omega)
      rw [pow_loop_step] at this
      exact this
    rw [rShr_L28, rShr_b28, rem_16, cond_dec, if_pos (by omega), em, inc (by omega)]
    exact rShr_pow hq H m (j + 1) k (by omega) (by omega)
theorem rShr_law {a : List Int} {b : Int} {t : List Int × Bool × Int} (h : rShrF (a, b) = some t) : ∃ k : Nat, rShr_b0 (rShr_L18 k) (rShr_L28 k) (rShr_L40 k) a b = some t := by
  obtain ⟨⟨ha, hn⟩, rfl⟩ := gu_eq.1 h
  dsimp only at *
  have l1 := K_len ha
  refine ⟨20000, ?_⟩
  rw [rShr_b0, cond_dec]
  by_cases c0 : b < 0
  · rw [if_pos c0, if_pos c0]
  · rw [if_neg c0, if_neg c0, digitsF_ok ha, Option.bind_some]
    obtain ⟨n, rfl⟩ := Int.eq_ofNat_of_zero_le (Int.not_lt.1 c0)
    have hlim := K_lim ha
    have hsp := pow_16_split n
    have hz := gcan_zero_iff (v := val a)
    have hXl : val a < 65536 ^ (gcan 65536 (val a)).length := by
      have := gval_lt (gcan_ok b16 (val a))
      rwa [gval_gcan b16] at this
    rw [quo16 (by omega), cond_dec, Int.toNat_natCast]
    by_cases c1 : ((n / 16 : Nat) : Int) ≥ (((gcan 65536 (val a)).length : Nat) : Int)
    · have hlt : val a < 2 ^ n := by
        have h1 : 65536 ^ (gcan 65536 (val a)).length ≤ 65536 ^ (n / 16) := Nat.pow_le_pow_right (by omega) (by omega)
        have h2 : 65536 ^ (n / 16) ≤ 2 ^ n := by
          rw [← hsp]
          exact Nat.le_mul_of_pos_right _ (pow_pos2 _)
        omega
      rw [if_pos c1, Nat.div_eq_of_lt hlt, Nat.mod_eq_of_lt hlt, can_zero]
      congr 3
      have : ((((gcan 65536 (val a)).length : Nat) : Int) > 0) ↔ val a ≠ 0 := by omega
      simp only [this]
    · have hq : n / 16 < (gcan 65536 (val a)).length := by omega
      have hpos := pow_pos2 (n % 16)
      have hfg : 2 ^ (n % 16) * 2 ^ (16 - n % 16) = 65536 := by
        rw [← Nat.pow_add, show n % 16 + (16 - n % 16) = 16 from by omega]
      have hd := gcan_ok b16 (val a)
      have hg : gval 65536 (gcan 65536 (val a)) = val a := gval_gcan b16 _
      have hdig := gdigit_val b16 (n / 16) hd
      rw [hg] at hdig
      have hgd := hd.get (by omega) (n / 16)
      rw [if_neg c1]
      have hfin : ∀ lost, (if (bnd (gval 65536 ([] ++ gs (2 ^ (n % 16)) ((gcan 65536 (val a)).drop (n / 16))))).2 = 0 then ((bnd (gval 65536 ([] ++ gs (2 ^ (n % 16)) ((gcan 65536 (val a)).drop (n / 16))))).1, lost, (0 : Int)) else ([], false, (bnd (gval 65536 ([] ++ gs (2 ^ (n % 16)) ((gcan 65536 (val a)).drop (n / 16))))).2)) = (can (val a / 2 ^ n), lost, 0) := by
        intro lost
        have hl2 : val a / 2 ^ n < Lim := Nat.lt_of_le_of_lt (Nat.div_le_self _ _) hlim
        rw [List.nil_append, gs_val hpos hfg _ (hd.drop _), gval_drop_div b16 _ _ hd, hg, Nat.div_div_eq_div_mul, hsp, bnd_lt hl2, if_pos rfl]
      have main := rShr_lost (n := n) (X := val a) rfl l1 hq (R := some (can (val a / 2 ^ n), decide (val a % 2 ^ n ≠ 0), 0)) (K := 12000) (fun k' hk' => by
        have := rShr_pow (n := n) (t := gcan 65536 (val a)) (q := n / 16) (lost := decide (val a % 65536 ^ (n / 16) ≠ 0)) hq (R := some (can (val a / 2 ^ n), decide (val a % 2 ^ n ≠ 0), 0)) (K := 5000) (fun k2 hk2 => by
          have hcopy := rShr_copy hd l1 hpos hfg (lost := (decide (val a % 65536 ^ (n / 16) ≠ 0) || !decide (remI ((gcan 65536 (val a)).getD (n / 16) 0) ((2 ^ (n % 16) : Nat) : Int) = 0))) ((gcan 65536 (val a)).drop (n / 16)) ((gcan 65536 (val a)).take (n / 16)) [] k2 (List.take_append_drop _ _).symm (by rw [List.length_drop]; omega) Dg.nil (by simp)
          rw [List.length_take, Nat.min_eq_left (by omega)] at hcopy
          rw [hcopy, hfin]
          congr 3
          obtain ⟨w, hw⟩ := Int.eq_ofNat_of_zero_le hgd.1
          have er : remI ((gcan 65536 (val a)).getD (n / 16) 0) ((2 ^ (n % 16) : Nat) : Int) = ((w % 2 ^ (n % 16) : Nat) : Int) := by
            rw [hw, remI, Int.tmod_eq_emod_of_nonneg (by omega)]
            rfl
          rw [hw, Int.toNat_natCast] at hdig
          have hmm : val a / 65536 ^ (n / 16) % 2 ^ (n % 16) = w % 2 ^ (n % 16) := by
            rw [← hdig]
            exact (Nat.mod_mod_of_dvd _ ⟨_, hfg.symm⟩).symm
          have hX : val a % 2 ^ n = val a % 65536 ^ (n / 16) + 65536 ^ (n / 16) * (w % 2 ^ (n % 16)) := by
            rw [← hsp, Nat.mod_mul, hmm]
          rw [er, hX]
          have hp6 : 0 < 65536 ^ (n / 16) := Nat.pow_pos (by omega)
          generalize w % 2 ^ (n % 16) = z at *
          generalize val a % 65536 ^ (n / 16) = y at *
          by_cases cy : y = 0
          · by_cases cz : z = 0
            · simp [cy, cz]
            · have h1 : 65536 ^ (n / 16) * z ≠ 0 := by
                have := Nat.mul_pos hp6 (Nat.pos_of_ne_zero cz)
                omega
              have h2 : ¬ ((z : Int) = 0) := by omega
              simp only [cy, Nat.zero_add, h1, h2, ne_eq, not_true_eq_false, not_false_eq_true, decide_true, decide_false, Bool.not_false, Bool.false_or]
          · have h1 : y + 65536 ^ (n / 16) * z ≠ 0 := by omega
            simp only [cy, h1, ne_eq, not_false_eq_true, decide_true, Bool.true_or]) (n % 16) 0 k' (by omega) (by omega)
        rw [Nat.pow_zero] at this
        exact this) (n / 16) 0 20000 (by omega) (by omega)
      rw [Nat.pow_zero, Nat.mod_one] at main
      exact main

/-! ### bits -/
theorem half64 {w : Nat} (h : w ≤ 9223372036854775807) : divI .i64 (w : Int) 2 = ((w / 2 : Nat) : Int) := by
  rw [divI, IntWalk.i64_quo _ _ (by omega)]
  omega
theorem rBits_word : ∀ (m w n k : Nat), w < 2 ^ m → w < 65536 → n ≤ 100000000 → n + m ≤ 100000000 → m + 1 ≤ k → rBits_L12 k (n : Int) (w : Int) = some ((n + blen w : Nat) : Int)
  | m, w, n, 0, _, _, _, _, hk => by omega
  | 0, w, n, k + 1, h, hw, hn, hb, hk => by
    obtain rfl : w = 0 := by simpa using h
    rw [rBits_L12, rBits_b12, cond_dec, if_neg (by omega)]
    simp [blen]
  | m + 1, w, n, k + 1, h, hw, hn, hb, hk => by
    rw [rBits_L12, rBits_b12, cond_dec]
    by_cases c : w = 0
    · subst c
      rw [if_neg (by omega)]
      simp [blen]
    · rw [Nat.pow_succ] at h
      rw [if_pos (by omega), inc (by omega), half64 (by omega), rBits_word m (w / 2) (n + 1) k (by omega) (by omega) (by omega) (by omega) (by omega), blen_half c]
      congr 2
      omega
theorem blen_top16 {n x y : Nat} (hx : x < 65536 ^ n) (hy : y ≠ 0) : blen (x + 65536 ^ n * y) = 16 * n + blen y := by
  rw [pow16b] at *
  have h1 := blen_lt y
  have h2 := blen_ge hy
  have h3 := blen_pos hy
  refine blen_unique ?_ (.inr ?_)
  · rw [Nat.pow_add]
    have : 2 ^ (16 * n) * (y + 1) ≤ 2 ^ (16 * n) * 2 ^ blen y := Nat.mul_le_mul_left _ h1
    rw [Nat.mul_succ] at this
    omega
  · rw [show 16 * n + blen y - 1 = 16 * n + (blen y - 1) from by omega, Nat.pow_add]
    have := Nat.mul_le_mul_left (2 ^ (16 * n)) h2
    omega
theorem rBits_law {a : List Int} {t : Int} (h : rBitsF a = some t) : ∃ k : Nat, rBits_b0 (rBits_L12 k) a = some t := by
  obtain ⟨ha, rfl⟩ := gu_eq.1 h
  have l1 := K_len ha
  refine ⟨20, ?_⟩
  have hd := gcan_ok b16 (val a)
  have hg : gval 65536 (gcan 65536 (val a)) = val a := gval_gcan b16 _
  rw [rBits_b0, digitsF_ok ha, Option.bind_some]
  simp only [gcan_zero_iff]
  rw [cond_dec]
  by_cases c : val a = 0
  · rw [if_pos c, c]
    rfl
  · have hz := gcan_zero_iff (v := val a)
    obtain ⟨n, hn⟩ : ∃ n, (gcan 65536 (val a)).length = n + 1 := ⟨(gcan 65536 (val a)).length - 1, by omega⟩
    have e1 : subI .i64 (((gcan 65536 (val a)).length : Nat) : Int) 1 = (n : Int) := by
      rw [subI_i64 (by omega)]
      omega
    have e2 : mulI .i64 16 (n : Int) = ((16 * n : Nat) : Int) := by
      rw [mulI_i64 (by omega)]
      omega
    have g := hd.get (by omega) n
    obtain ⟨w, hw⟩ := Int.eq_ofNat_of_zero_le g.1
    have hsplit := gval_take_succ (b := 65536) (gcan 65536 (val a)) n
    rw [List.take_of_length_le (by omega), hg, hw, Int.toNat_natCast] at hsplit
    have hlow := gval_lt (hd.take n)
    rw [List.length_take, Nat.min_eq_left (by omega)] at hlow
    have hw0 : w ≠ 0 := by
      rintro rfl
      rw [Nat.mul_zero, Nat.add_zero] at hsplit
      have := gcan_len b16 (n := n) (v := val a) (by omega)
      omega
    rw [if_neg c, e1, inR (by omega), cond_t, e2, rdI_nat, hw, rBits_word 16 w (16 * n) 20 (by omega) (by omega) (by omega) (by omega) (by omega), ← blen_top16 hlow hw0, ← hsplit]
theorem rBit_loop {n w : Nat} (hw : w < 65536) : ∀ (m j k : Nat), j + m = n % 16 → m + 1 ≤ k → rBit_L12 k (n : Int) ((w / 2 ^ j : Nat) : Int) (j : Int) = some ((w / 2 ^ (n % 16) % 2 : Nat) : Int)
  | m, j, 0, _, hk => by omega
  | 0, j, k + 1, hj, hk => by
    rw [rBit_L12, rBit_b12, rem_16, cond_dec, if_neg (by omega), show j = n % 16 from by omega, remI, Int.tmod_eq_emod_of_nonneg (Int.natCast_nonneg _)]
    rfl
  | m + 1, j, k + 1, hj, hk => by
    have : w / 2 ^ j ≤ w := Nat.div_le_self _ _
    rw [rBit_L12, rBit_b12, rem_16, cond_dec, if_pos (by omega), half64 (by omega), inc (by omega), Nat.div_div_eq_div_mul, pow_loop_step]
    exact rBit_loop hw m (j + 1) k (by omega) (by omega)
theorem bit_of16 {v r : Nat} (hr : r < 16) : v % 65536 / 2 ^ r % 2 = v / 2 ^ r % 2 := by
  have h1 : (65536 : Nat) = 2 ^ r * (2 * 2 ^ (15 - r)) := by
    rw [← Nat.pow_succ', ← Nat.pow_add, show r + (15 - r).succ = 16 from by omega]
  have h2 : v = v % 65536 + 65536 * (v / 65536) := by omega
  generalize v % 65536 = a at *
  generalize v / 65536 = b at *
  rw [h2, h1, Nat.mul_assoc, Nat.add_mul_div_left _ _ (Nat.pow_pos (by omega)), Nat.mul_assoc]
  omega
theorem rBit_law {a : List Int} {b t : Int} (h : rBitF (a, b) = some t) : ∃ k : Nat, rBit_b0 (rBit_L12 k) a b = some t := by
  obtain ⟨⟨ha, hn⟩, rfl⟩ := gu_eq.1 h
  dsimp only at *
  have l1 := K_len ha
  refine ⟨17, ?_⟩
  rw [rBit_b0, digitsF_ok ha, Option.bind_some, cond_dec]
  by_cases c0 : b < 0
  · rw [if_pos c0, if_pos c0]
  · rw [if_neg c0, if_neg c0]
    obtain ⟨n, rfl⟩ := Int.eq_ofNat_of_zero_le (Int.not_lt.1 c0)
    have hd := gcan_ok b16 (val a)
    have hg : gval 65536 (gcan 65536 (val a)) = val a := gval_gcan b16 _
    have hsp := pow_16_split n
    have hXl : val a < 65536 ^ (gcan 65536 (val a)).length := by
      have := gval_lt hd
      rwa [hg] at this
    rw [quo16 (by omega), cond_dec, Int.toNat_natCast]
    by_cases c1 : ((n / 16 : Nat) : Int) ≥ (((gcan 65536 (val a)).length : Nat) : Int)
    · have hlt : val a < 2 ^ n := by
        have h1 : 65536 ^ (gcan 65536 (val a)).length ≤ 65536 ^ (n / 16) := Nat.pow_le_pow_right (by omega) (by omega)
        have h2 : 65536 ^ (n / 16) ≤ 2 ^ n := by
          rw [← hsp]
          exact Nat.le_mul_of_pos_right _ (pow_pos2 _)
        omega
      rw [if_pos c1, Nat.div_eq_of_lt hlt]
      rfl
    · have hdig := gdigit_val b16 (n / 16) hd
      rw [hg] at hdig
      obtain ⟨w, hw⟩ := Int.eq_ofNat_of_zero_le (hd.get (by omega) (n / 16)).1
      have hwl := (hd.get (by omega) (n / 16)).2
      rw [hw] at hwl
      rw [hw, Int.toNat_natCast] at hdig
      have := rBit_loop (n := n) (w := w) (by omega) (n % 16) 0 17 (by omega) (by omega)
      rw [Nat.pow_zero, Nat.div_one] at this
      rw [if_neg c1, inR (by omega), cond_t, rdI_nat, hw]
      refine this.trans ?_
      rw [← hdig, bit_of16 (by omega), Nat.div_div_eq_div_mul, hsp]

/-! ### zeros -/
theorem rZeros_word : ∀ (m w n k : Nat), 0 < w → w < 2 ^ m → w < 65536 → n + m ≤ 100000000 → m + 1 ≤ k → rZeros_L16 k (n : Int) (w : Int) = some ((n + tz w : Nat) : Int)
  | m, w, n, 0, _, _, _, _, hk => by omega
  | 0, w, n, k + 1, h0, h, hw, hb, hk => by simp at h; omega
  | m + 1, w, n, k + 1, h0, h, hw, hb, hk => by
    have er : remI (w : Int) 2 = ((w % 2 : Nat) : Int) := by
      rw [remI, Int.tmod_eq_emod_of_nonneg (by omega)]
      omega
    rw [rZeros_L16, rZeros_b16, er, cond_dec]
    rcases Nat.mod_two_eq_zero_or_one w with c | c
    · rw [Nat.pow_succ] at h
      rw [if_pos (by omega), inc (by omega), half64 (by omega), rZeros_word m (w / 2) (n + 1) k (by omega) (by omega) (by omega) (by omega) (by omega), tz_even (by omega) c]
      congr 2
      omega
    · rw [if_neg (by omega), tz_odd c]
      simp
theorem rZeros_loop {t : List Int} (hl : t.length ≤ 4000) (ht : Dg 65536 t) : ∀ (suf pre : List Int) (k : Nat), t = pre ++ suf → suf.length + 20 ≤ k → rZeros_L6 k t (pre.length : Int) = some (if gval 65536 suf = 0 then 0 else ((16 * pre.length + tz (gval 65536 suf) : Nat) : Int))
  | suf, pre, 0, _, hk => by omega
  | [], pre, k + 1, htt, hk => by
    have : pre.length = t.length := by rw [htt]; simp
    rw [rZeros_L6, rZeros_b6, cond_dec, if_neg (by omega), gval_nil, if_pos rfl]
  | x :: suf, pre, k + 1, htt, hk => by
    simp only [List.length_cons] at hk
    have hlt : pre.length < t.length := by rw [htt]; simp
    have hts := ht
    rw [htt, Dg.append, Dg.cons] at hts
    obtain ⟨w, rfl⟩ := Int.eq_ofNat_of_zero_le hts.2.1.1
    have hwl : w < 65536 := by have := hts.2.1.2; omega
    have hrd : rdI t (pre.length : Int) = (w : Int) := by
      rw [htt]
      exact rdI_mid rfl
    have em : mulI .i64 16 (pre.length : Int) = ((16 * pre.length : Nat) : Int) := by
      rw [mulI_i64 (by omega)]
      omega
    rw [rZeros_L6, rZeros_b6, cond_dec, if_pos (by omega), inR hlt, cond_t, hrd, cond_dec, cond_t, em, inc (by omega), gval_cons, Int.toNat_natCast]
    by_cases c : w = 0
    · subst c
      have ih := rZeros_loop hl ht suf (pre ++ [((0 : Nat) : Int)]) k (by rw [htt]; simp) (by omega)
      rw [snoc_len] at ih
      rw [if_pos (by omega), ih, Nat.zero_add]
      by_cases c2 : gval 65536 suf = 0
      · rw [if_pos c2, if_pos (by omega)]
      · rw [if_neg c2, if_neg (by omega)]
        have := tz_pow c2 16
        rw [show (2 : Nat) ^ 16 = 65536 from rfl] at this
        rw [this]
        congr 2
        omega
    · have := tz_low 16 w (gval 65536 suf) (by omega) (by omega)
      rw [show (2 : Nat) ^ 16 = 65536 from rfl] at this
      rw [if_neg (by omega), rZeros_word 16 w (16 * pre.length) k (by omega) (by omega) hwl (by omega) (by omega), if_neg (by omega), this]
theorem rZeros_law {a : List Int} {t : Int} (h : rZerosF a = some t) : ∃ k : Nat, rZeros_b0 (rZeros_L6 k) (rZeros_L16 k) a = some t := by
  obtain ⟨ha, rfl⟩ := gu_eq.1 h
  have l1 := K_len ha
  refine ⟨5000, ?_⟩
  have hg : gval 65536 (gcan 65536 (val a)) = val a := gval_gcan b16 _
  have := rZeros_loop l1 (gcan_ok b16 (val a)) (gcan 65536 (val a)) [] 5000 rfl (by omega)
  rw [hg] at this
  rw [rZeros_b0, digitsF_ok ha, Option.bind_some]
  refine this.trans ?_
  split
  · rename_i h0
    rw [h0, tz_zero]
    rfl
  · simp

theorem NatShifts_law {a : List Int} {b : Int} {t : Bool} (h : NatShiftsF (a, b) = some t) : ∃ k : Nat, NatShifts_b0 a b = some t := by
  obtain ⟨⟨ha, hb⟩, rfl⟩ := gu_eq.1 h
  dsimp only at *
  refine ⟨0, ?_⟩
  have kx := K_cut ha
  have hxl := val_cut ha
  have hn := hb.2
  rw [NatShifts_b0, cutF_ok ha]
  simp only [Option.bind_some]
  generalize a.take 60 = x at *
  have hbl : blen (val x) ≤ 3840 := by
    rw [pow64] at hxl
    have := (blen_le_iff (64 * 60) (val x)).2 hxl
    omega
  have e1 : nShlF (x, b) = some (if b < 0 then ([], 22) else if val x = 0 then ([], 0) else if blen (val x) + b.toNat ≤ 262144 then (can (val x * 2 ^ b.toNat), 0) else ([], 21)) := gu_pos ⟨kx.V, hn⟩
  have e2 : rShlF (x, b) = some (if b < 0 then ([], 22) else if val x = 0 then ([], 0) else if blen (val x) + b.toNat ≤ 262144 then (can (val x * 2 ^ b.toNat), 0) else ([], 21)) := gu_pos ⟨kx, hn⟩
  have hs : (if b < 0 then (([], 22) : List Int × Int) else if val x = 0 then ([], 0) else if blen (val x) + b.toNat ≤ 262144 then (can (val x * 2 ^ b.toNat), 0) else ([], 21)).1.length ≤ 17609365913600 := by
    split
    · simp
    · split
      · simp
      · rename_i c
        split
        · rename_i c2
          exact (U_can (lt_Lim_blen.2 (by rw [blen_shl _ c]; exact c2))).2
        · simp
  generalize (if b < 0 then (([], 22) : List Int × Int) else if val x = 0 then ([], 0) else if blen (val x) + b.toNat ≤ 262144 then (can (val x * 2 ^ b.toNat), 0) else ([], 21)) = s at *
  have e3 : rShrF (x, b) = some (if b < 0 then ([], false, 22) else (can (val x / 2 ^ b.toNat), decide (val x % 2 ^ b.toNat ≠ 0), 0)) := gu_pos ⟨kx, hn⟩
  have e4 : nShrF (x, b) = some (if b < 0 then ([], false, 22) else (can (val x / 2 ^ b.toNat), decide (val x % 2 ^ b.toNat ≠ 0), 0)) := by
    by_cases c : b < 0
    · rw [if_pos c, nShrF, gu_pos ⟨kx.V, hn⟩]
      dsimp only
      rw [if_pos c]
    · rw [if_neg c]
      obtain ⟨n, rfl⟩ := Int.eq_ofNat_of_zero_le (Int.not_lt.1 c)
      rw [Int.toNat_natCast]
      exact nShrF_ok kx.V (by omega) (by omega)
  have hr : (if b < 0 then (([], false, 22) : List Int × Bool × Int) else (can (val x / 2 ^ b.toNat), decide (val x % 2 ^ b.toNat ≠ 0), 0)).1.length ≤ 17609365913600 := by
    split
    · simp
    · exact (U_can (Nat.lt_of_le_of_lt (Nat.div_le_self _ _) (K_lim kx))).2
  generalize (if b < 0 then (([], false, 22) : List Int × Bool × Int) else (can (val x / 2 ^ b.toNat), decide (val x % 2 ^ b.toNat ≠ 0), 0)) = r at *
  have e5 : rBitsF x = some ((blen (val x) : Nat) : Int) := gu_pos kx
  have e6 : nBitF (x, b) = some (if b < 0 then 0 else ((val x / 2 ^ b.toNat % 2 : Nat) : Int)) := gu_pos ⟨kx.V, hn⟩
  have e7 : rBitF (x, b) = some (if b < 0 then 0 else ((val x / 2 ^ b.toNat % 2 : Nat) : Int)) := gu_pos ⟨kx, hn⟩
  have e8 : rZerosF x = some ((tz (val x) : Nat) : Int) := gu_pos kx
  simp only [e1, e2, e3, e4, told_same hs, told_same hr, nBitsF_ok kx.V, e5, e6, e7, nZerosF_ok kx.V, e8, Option.bind_some, decide_true, Bool.not_true, cond_f, cond_t]
theorem rShl_ok : CtrOk Go.Proofs.Try.prog 51 (mkF [.sl (.int .u64), .int .i64] [.sl (.int .u64), .int .i64] rShlF) := by
  refine mkF_ok (c := bodyOf Go.Proofs.Try.f51) (tab := S.tab) (cts := [(120, mkF [.sl (.int .u64)] [.sl (.int .i64)] digitsF), (122, mkF [.sl (.int .i64)] [.sl (.int .i64)] carriedF), (121, mkF [.sl (.int .i64)] [.sl (.int .u64), .int .i64] rtoldF)]) (res := [4, 5]) tab_ok hm ⟨digits_ok, carried_ok, rtold_ok, trivial⟩ Go.Proofs.Try.func51 (by kernel_rfl) (by kernel_rfl) (by kernel_rfl) (by kernel_rfl) (by kernel_rfl) ?_
  rintro ⟨a, b⟩ t h
  obtain ⟨k, hk⟩ := rShl_law h
  exact ⟨rShl_h, 3000, k, (rShl_ev k a b).trans hk⟩

theorem rShr_ok : CtrOk Go.Proofs.Try.prog 53 (mkF [.sl (.int .u64), .int .i64] [.sl (.int .u64), .bool, .int .i64] rShrF) := by
  refine mkF_ok (c := bodyOf Go.Proofs.Try.f53) (tab := S.tab) (cts := [(120, mkF [.sl (.int .u64)] [.sl (.int .i64)] digitsF), (121, mkF [.sl (.int .i64)] [.sl (.int .u64), .int .i64] rtoldF)]) (res := [4, 5, 6]) tab_ok hm ⟨digits_ok, rtold_ok, trivial⟩ Go.Proofs.Try.func53 (by kernel_rfl) (by kernel_rfl) (by kernel_rfl) (by kernel_rfl) (by kernel_rfl) ?_
  rintro ⟨a, b⟩ t h
  obtain ⟨k, hk⟩ := rShr_law h
  exact ⟨rShr_h, 3000, k, (rShr_ev k a b).trans hk⟩

theorem rBits_ok : CtrOk Go.Proofs.Try.prog 55 (mkF [.sl (.int .u64)] [.int .i64] rBitsF) := by
  refine mkF_ok (c := bodyOf Go.Proofs.Try.f55) (tab := S.tab) (cts := [(120, mkF [.sl (.int .u64)] [.sl (.int .i64)] digitsF)]) (res := [2]) tab_ok hm ⟨digits_ok, trivial⟩ Go.Proofs.Try.func55 (by kernel_rfl) (by kernel_rfl) (by kernel_rfl) (by kernel_rfl) (by kernel_rfl) ?_
  rintro a t h
  obtain ⟨k, hk⟩ := rBits_law h
  exact ⟨rBits_h, 3000, k, (rBits_ev k a).trans hk⟩

theorem rBit_ok : CtrOk Go.Proofs.Try.prog 56 (mkF [.sl (.int .u64), .int .i64] [.int .i64] rBitF) := by
  refine mkF_ok (c := bodyOf Go.Proofs.Try.f56) (tab := S.tab) (cts := [(120, mkF [.sl (.int .u64)] [.sl (.int .i64)] digitsF)]) (res := [4]) tab_ok hm ⟨digits_ok, trivial⟩ Go.Proofs.Try.func56 (by kernel_rfl) (by kernel_rfl) (by kernel_rfl) (by kernel_rfl) (by kernel_rfl) ?_
  rintro ⟨a, b⟩ t h
  obtain ⟨k, hk⟩ := rBit_law h
  exact ⟨rBit_h, 3000, k, (rBit_ev k a b).trans hk⟩

theorem rZeros_ok : CtrOk Go.Proofs.Try.prog 57 (mkF [.sl (.int .u64)] [.int .i64] rZerosF) := by
  refine mkF_ok (c := bodyOf Go.Proofs.Try.f57) (tab := S.tab) (cts := [(120, mkF [.sl (.int .u64)] [.sl (.int .i64)] digitsF)]) (res := [2]) tab_ok hm ⟨digits_ok, trivial⟩ Go.Proofs.Try.func57 (by kernel_rfl) (by kernel_rfl) (by kernel_rfl) (by kernel_rfl) (by kernel_rfl) ?_
  rintro a t h
  obtain ⟨k, hk⟩ := rZeros_law h
  exact ⟨rZeros_h, 3000, k, (rZeros_ev k a).trans hk⟩

theorem NatShifts_ok : CtrOk Go.Proofs.Try.prog 7 (mkF [.sl (.int .u64), .int .i64] [.bool] NatShiftsF) := by
  refine mkF_ok (c := bodyOf Go.Proofs.Try.f7) (tab := S.tab) (cts := [(27, mkF [.sl (.int .u64)] [.sl (.int .u64)] cutF), (42, mkF [.sl (.int .u64), .int .i64] [.sl (.int .u64), .int .i64] nShlF), (51, mkF [.sl (.int .u64), .int .i64] [.sl (.int .u64), .int .i64] rShlF), (52, mkF [.sl (.int .u64), .int .i64] [.sl (.int .u64), .bool, .int .i64] nShrF), (53, mkF [.sl (.int .u64), .int .i64] [.sl (.int .u64), .bool, .int .i64] rShrF), (54, mkF [.sl (.int .u64), .int .i64, .sl (.int .u64), .int .i64] [.bool] toldF), (43, mkF [.sl (.int .u64)] [.int .i64] nBitsF), (55, mkF [.sl (.int .u64)] [.int .i64] rBitsF), (41, mkF [.sl (.int .u64), .int .i64] [.int .i64] nBitF), (56, mkF [.sl (.int .u64), .int .i64] [.int .i64] rBitF), (44, mkF [.sl (.int .u64)] [.int .i64] nZerosF), (57, mkF [.sl (.int .u64)] [.int .i64] rZerosF)]) (res := [4]) tab_ok hm ⟨cut_ok, nShl_ok, rShl_ok, nShr_ok, rShr_ok, told_ok, nBits_ok, rBits_ok, nBit_ok, rBit_ok, nZeros_ok, rZeros_ok, trivial⟩ Go.Proofs.Try.func7 (by kernel_rfl) (by kernel_rfl) (by kernel_rfl) (by kernel_rfl) (by kernel_rfl) ?_
  rintro ⟨a, b⟩ t h
  obtain ⟨k, hk⟩ := NatShifts_law h
  exact ⟨NatShifts_h, 3000, k, (NatShifts_ev k a b).trans hk⟩

end Go.RX.S
