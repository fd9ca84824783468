/- plumbref03: division, divisors, roots; every DivMod, Small, Gcd, Lowest and Root is the document's. -/
import Derived.Test.YtciapojlnhiggaaGreatZWk
set_option linter.unusedVariables false
set_option linter.unusedSimpArgs false
namespace Go.RX.S
open Go Go.RX
theorem dig_of {l : List Int} (h : W64 l) {v : Nat} (hv : val l = v) : l = dig l.length v := by rw [← hv, dig_val h]
theorem r3Div_shift {a d h0 : List Int} {i : Int} {m : Nat} (hm : m ≤ 17592186044416) {res : Option (List Int × List Int × Int)} (K : Nat) (Z : List Int) (hZ : Z.length = m) (hres : ∀ k c, K ≤ k → r3DivMod_L24 k a d i (c : Int) (m : Int) h0 Z = res) :
    ∀ (ys pre : List Int) (c k : Nat), W64 ys → c < 2 ^ 1 → pre.length + ys.length = m → pre ++ shl 1 c ys = Z → K + ys.length ≤ k → r3DivMod_L24 k a d i (c : Int) (pre.length : Int) h0 (pre ++ ys) = res
  | [], pre, c, k, hW, hc, hl, hz, hk => by
    simp only [List.length_nil, Nat.add_zero] at hl hk
    rw [← hl] at hres
    have : Z = pre ++ [] := by rw [← hz]; rfl
    rw [← this]
    exact hres k c hk
  | y :: ys, pre, c, 0, hW, hc, hl, hz, hk => by simp at hk
  | y :: ys, pre, c, k + 1, hW, hc, hl, hz, hk => by
    rw [W64.cons] at hW
    simp only [List.length_cons] at hk hl
    obtain ⟨yn, rfl, hyn⟩ := Wd.nat hW.1
    rw [shl_cons, Int.toNat_natCast] at hz
    have hlen : pre.length < (pre ++ (yn : Int) :: ys).length := by simp
    have e1 := shlI_u64 yn 1
    have e2 := shrI_u64 yn 63 hyn
    rw [show ((1 : Nat) : Int) = 1 from rfl] at e1
    rw [show ((63 : Nat) : Int) = 63 from rfl] at e2
    have e3 : yn * 2 ^ 1 / 18446744073709551616 = yn / 2 ^ 63 := mul_div_pow (n := 1) (by omega)
    rw [e3] at hz
    rw [r3DivMod_L24, r3DivMod_b24, cond_dec, if_pos (by simp; omega), inR hlen, cond_t, cond_t, cond_t, Int.toNat_natCast, rdN_mid rfl, wrI_mid rfl, e1, e2, orI_low (by omega) hyn hc, inc (by omega), snoc_app, ← snoc_len pre ((yn * 2 ^ 1 % 18446744073709551616 + c : Nat) : Int)]
    exact r3Div_shift hm K Z hZ hres ys _ _ k hW.2 (by omega) (by rw [snoc_len]; omega) (by rw [← hz]; simp) (by omega)
theorem r3Div_take {a d h0 : List Int} {i : Int} {m : Nat} (hm : m ≤ 17592186044416) (hd : W64 d) {res : Option (List Int × List Int × Int)} (K : Nat) (Z Y : List Int) (hZ : Z.length = m) (hZW : W64 Z) (hdv : val d = val (d.take m)) (hle : val d ≤ val Z) (hY : Y = dig m (val Z - val d)) (hres : ∀ k c, K ≤ k → r3DivMod_L40 k a d i (c : Int) (m : Int) h0 Y = res) :
    ∀ (ys pre zpre : List Int) (c k : Nat), Z = zpre ++ ys → zpre.length = pre.length → W64 pre → W64 ys → c ≤ 1 → val pre + val (d.take pre.length) = val zpre + 18446744073709551616 ^ pre.length * c → K + ys.length ≤ k → r3DivMod_L40 k a d i (c : Int) (pre.length : Int) h0 (pre ++ ys) = res
  | [], pre, zpre, c, k, hz, hl, hp, hW, hc, hv, hk => by
    simp only [List.append_nil] at hz ⊢
    subst hz
    have hpm : pre.length = m := by rw [← hl, hZ]
    have hlt := val_lt hp
    rw [hpm] at hv hlt ⊢
    rw [← hdv] at hv
    have hc0 : c = 0 := by
      rcases Nat.eq_zero_or_pos c with h0 | h0
      · exact h0
      · obtain rfl : c = 1 := by omega
        omega
    subst hc0
    have : pre = Y := by
      rw [hY, dig_of hp (v := val Z - val d) (by omega), hpm]
    rw [this]
    exact hres k 0 hk
  | y :: ys, pre, zpre, c, 0, hz, hl, hp, hW, hc, hv, hk => by simp at hk
  | y :: ys, pre, zpre, c, k + 1, hz, hl, hp, hW, hc, hv, hk => by
    rw [W64.cons] at hW
    simp only [List.length_cons] at hk
    obtain ⟨x, rfl, hx2⟩ := Wd.nat hW.1
    obtain ⟨w, hw, hw2⟩ := Wd.nat (hd.get pre.length)
    have hlen : pre.length < (pre ++ (x : Int) :: ys).length := by simp
    have hml : pre.length + 1 ≤ m := by
      have := congrArg List.length hz
      rw [hZ, List.length_append, List.length_cons] at this
      omega
    have e1 := sub_digit hx2 hw2 hc
    have step : ∀ e : Nat, e ≤ 1 → (18446744073709551616 + x - w - c) % 18446744073709551616 + w + c = x + 18446744073709551616 * e → r3DivMod_L40 k a d i (e : Int) (((pre ++ [(((18446744073709551616 + x - w - c) % 18446744073709551616 : Nat) : Int)]).length : Nat) : Int) h0 ((pre ++ [(((18446744073709551616 + x - w - c) % 18446744073709551616 : Nat) : Int)]) ++ ys) = res := by
      intro e he1 he
      refine r3Div_take hm hd K Z Y hZ hZW hdv hle hY hres ys _ (zpre ++ [(x : Int)]) e k (by rw [hz]; simp) (by rw [snoc_len, snoc_len, hl]) (W64.append.2 ⟨hp, by rw [W64.cons]; exact ⟨by omega, W64.nil⟩⟩) hW.2 he1 ?_ (by omega)
      rw [snoc_len, val_snoc, val_snoc, hl, Int.toNat_natCast, Int.toNat_natCast, val_take_next, hw, Int.toNat_natCast, Nat.pow_succ]
      have := congrArg (fun z => 18446744073709551616 ^ pre.length * z) he
      grind
    have s0 := step 0 (by omega)
    have s1 := step 1 (by omega)
    rw [snoc_len] at s0 s1
    rw [show ((0 : Nat) : Int) = 0 from rfl] at s0
    rw [show ((1 : Nat) : Int) = 1 from rfl] at s1
    rw [r3DivMod_L40, r3DivMod_b40, cond_dec, if_pos (by simp; omega), r3atF_ok, Option.bind_some, inR hlen, cond_t, cond_t, Int.toNat_natCast, rdN_mid rfl, wrI_mid rfl, hw, e1, inc (by omega), snoc_app]
    simp only [cond_dec]
    by_cases c1 : x < w
    · rw [if_pos (by omega), s1 (by omega)]
    · rw [if_neg (by omega)]
      by_cases c2 : x = w
      · rw [if_pos (by omega)]
        by_cases c3 : c = 1
        · rw [if_pos (by omega), s1 (by omega)]
        · rw [if_neg (by omega), s0 (by omega)]
      · rw [if_neg (by omega), s0 (by omega)]
theorem set_bit {q : List Int} (hq : W64 q) {m : Nat} (hm : m / 64 < q.length) (h0 : val q % 2 ^ (m + 1) = 0) :
    wrI q (m / 64) (orI .u64 (rdN q (m / 64)) ((2 ^ (m % 64) : Nat) : Int)) = dig q.length (val q + 2 ^ m) := by
  obtain ⟨pre, v, suf, rfl, hp⟩ := splitAt hm
  rw [W64.append, W64.cons] at hq
  obtain ⟨vn, rfl, hvn⟩ := Wd.nat hq.2.1
  obtain ⟨r, hr⟩ : ∃ r, m % 64 = r := ⟨_, rfl⟩
  have hr64 : r < 64 := by omega
  have hpow : 2 ^ (m + 1) = 18446744073709551616 ^ (m / 64) * 2 ^ (r + 1) := by
    rw [pow64, ← Nat.pow_add]
    congr 1
    omega
  have hpow0 : 2 ^ m = 18446744073709551616 ^ (m / 64) * 2 ^ r := by
    rw [pow64, ← Nat.pow_add]
    congr 1
    omega
  have hWp : (18446744073709551616 : Nat) = 2 ^ (r + 1) * 2 ^ (63 - r) := by
    rw [← Nat.pow_add, show r + 1 + (63 - r) = 64 from by omega]
  have hv0 : vn % 2 ^ (r + 1) = 0 := by
    have h1 := Nat.mod_mul_right_div_self (val (pre ++ (vn : Int) :: suf)) (18446744073709551616 ^ (m / 64)) (2 ^ (r + 1))
    rw [← hpow, h0, Nat.zero_div, val_mid, hp, Int.toNat_natCast, Nat.add_mul_div_left _ _ (Nat.pow_pos (by omega)), Nat.div_eq_of_lt (by rw [← hp]; exact val_lt hq.1), Nat.zero_add] at h1
    rw [hWp] at h1
    have h2 : (vn + 2 ^ (r + 1) * 2 ^ (63 - r) * val suf) % 2 ^ (r + 1) = vn % 2 ^ (r + 1) := by rw [Nat.mul_assoc, Nat.add_mul_mod_self_left]
    omega
  obtain ⟨u, hu⟩ : ∃ u, vn = u * 2 ^ (r + 1) := ⟨vn / 2 ^ (r + 1), by have := Nat.div_add_mod vn (2 ^ (r + 1)); rw [hv0, Nat.mul_comm] at this; omega⟩
  have hlt : 2 ^ r < 2 ^ (r + 1) := Nat.pow_lt_pow_right (by omega) (by omega)
  have hu2 : u + 1 ≤ 2 ^ (63 - r) := by
    rw [hu, hWp, Nat.mul_comm] at hvn
    have := Nat.lt_of_mul_lt_mul_left hvn
    omega
  have hsum : vn + 2 ^ r < 18446744073709551616 := by
    have h3 := Nat.mul_le_mul_left (2 ^ (r + 1)) hu2
    rw [← hWp, Nat.mul_add, Nat.mul_one, Nat.mul_comm _ u, ← hu] at h3
    omega
  have hor : orI .u64 (vn : Int) ((2 ^ r : Nat) : Int) = ((vn + 2 ^ r : Nat) : Int) := by
    rw [orI_u64 _ _ hvn (by omega)]
    rw [hu, or_low hlt]
  rw [rdN_mid hp, hr, hor, wrI_mid hp]
  have hlen : (pre ++ (vn : Int) :: suf).length = (pre ++ ((vn + 2 ^ r : Nat) : Int) :: suf).length := by simp
  rw [hlen]
  refine dig_of (W64.append.2 ⟨hq.1, by rw [W64.cons]; exact ⟨Wd.of hsum, hq.2.2⟩⟩) ?_
  rw [val_mid, val_mid, Int.toNat_natCast, Int.toNat_natCast, hp, hpow0]
  grind
theorem bits_step (X D m : Nat) (hD : 0 < D) : X / 2 ^ m = 2 * (X / 2 ^ (m + 1)) + X / 2 ^ m % 2 := by
  rw [Nat.pow_succ, ← Nat.div_div_eq_div_mul]
  omega
theorem r3Div_loop {a : List Int} (ha : L a) {D nq : Nat} (hD : D ≠ 0) (hVD : L (can D)) (hnq : blen (val a) < 64 * nq) (hnq2 : nq ≤ 17592186044000) : ∀ (m k : Nat), m ≤ blen (val a) → m * (2 * (can D).length + 6) + 2 ≤ k →
    r3DivMod_L16 k a (can D) ((m : Int) - 1) (dig nq (val a / 2 ^ m / D * 2 ^ m)) (dig ((can D).length + 1) (val a / 2 ^ m % D)) = some (can (val a / D), can (val a % D), 0)
  | m, 0, _, hk => by omega
  | 0, k + 1, hm, hk => by
    have hDl := hVD.2
    have h1 : val a < 18446744073709551616 ^ nq := by
      rw [pow64, ← blen_le_iff]
      omega
    have h2 : val a / D < 18446744073709551616 ^ nq := Nat.lt_of_le_of_lt (Nat.div_le_self _ _) h1
    have h3 : val a % D < 18446744073709551616 ^ ((can D).length + 1) := by
      have := Nat.mod_lt (val a) (show 0 < D by omega)
      have := can_len_lt D
      have : 18446744073709551616 ^ (can D).length ≤ 18446744073709551616 ^ ((can D).length + 1) := Nat.pow_le_pow_right (by omega) (by omega)
      omega
    rw [Nat.pow_zero, Nat.div_one, Nat.mul_one, r3DivMod_L16, r3DivMod_b16, cond_dec, if_neg (by omega), r3NormF_V ⟨dig_ok _ _, by rw [dig_len]; omega⟩, Option.bind_some, r3NormF_V ⟨dig_ok _ _, by rw [dig_len]; omega⟩, Option.bind_some, val_dig _ _ h2, val_dig _ _ h3]
  | m + 1, k + 1, hm, hk => by
    have hbv := blen_V ha.V
    have hDl := hVD.2
    have hDp : 0 < D := by omega
    have hDlt := can_len_lt D
    obtain ⟨nd, hnd⟩ : ∃ n, (can D).length = n := ⟨_, rfl⟩
    rw [hnd] at hDl hDlt hk
    have hstep := bits_step (val a) D m hDp
    obtain ⟨c, hc⟩ : ∃ c, val a / 2 ^ m % 2 = c := ⟨_, rfl⟩
    obtain ⟨A, hA⟩ : ∃ A, val a / 2 ^ (m + 1) = A := ⟨_, rfl⟩
    have hc2 : c < 2 := by omega
    rw [hc, hA] at hstep
    have hdm := Nat.div_add_mod A D
    have hml := Nat.mod_lt A hDp
    obtain ⟨Q, hQ⟩ : ∃ Q, A / D = Q := ⟨_, rfl⟩
    obtain ⟨R, hR⟩ : ∃ R, A % D = R := ⟨_, rfl⟩
    rw [hQ, hR] at hdm
    rw [hR] at hml
    -- the rest, shifted
    have hZv : val (shl 1 c (dig nd R ++ [0])) = 2 * R + c := by
      rw [shl_val, val_dig _ _ (by omega)]
      omega
    have hZW : W64 (shl 1 c (dig nd R ++ [0])) := shl_W64 (by omega) _ _ (W64.append.2 ⟨dig_ok _ _, by rw [W64.cons]; exact ⟨by omega, W64.nil⟩⟩) (by omega)
    have hZl : (shl 1 c (dig nd R ++ [0])).length = nd + 1 := by rw [shl_len, snoc_len, dig_len]
    have hdig : dig (nd + 1) R = dig nd R ++ [0] := dig_top (by omega)
    obtain ⟨Z, hZ⟩ : ∃ Z, shl 1 c (dig nd R ++ [0]) = Z := ⟨_, rfl⟩
    rw [hZ] at hZv hZW hZl
    have hXm : val a / 2 ^ m < 18446744073709551616 ^ nq := by
      have h1 : val a < 18446744073709551616 ^ nq := by
        rw [pow64, ← blen_le_iff]
        omega
      exact Nat.lt_of_le_of_lt (Nat.div_le_self _ _) h1
    have hQlt : Q * 2 ^ (m + 1) < 18446744073709551616 ^ nq := by
      have h1 : val a < 18446744073709551616 ^ nq := by
        rw [pow64, ← blen_le_iff]
        omega
      refine Nat.lt_of_le_of_lt ?_ h1
      rw [← hQ, ← hA]
      exact Nat.le_trans (Nat.mul_le_mul_right _ (Nat.div_le_self _ _)) (Nat.div_mul_le_self _ _)
    have hbit := r3BitF_ok ha.V (m := m) (by omega)
    rw [hc] at hbit
    have hcmp := r3CmpF_U (x := Z) (y := can D) ⟨hZW, by omega⟩ hVD.V.U
    rw [hZv, val_can] at hcmp
    rw [hA, hQ, hR, hnd, hdig, r3DivMod_L16, r3DivMod_b16, cond_dec, if_pos (by omega), show ((m + 1 : Nat) : Int) - 1 = (m : Int) from by omega, hbit, Option.bind_some]
    have hih : ∀ k' q r, m * (2 * nd + 6) + 2 ≤ k' → val a / 2 ^ m / D = q → val a / 2 ^ m % D = r → r3DivMod_L16 k' a (can D) ((m : Int) - 1) (dig nq (q * 2 ^ m)) (dig (nd + 1) r) = some (can (val a / D), can (val a % D), 0) := by
      intro k' q r hk' h1 h2
      have := r3Div_loop ha hD hVD hnq hnq2 m k' (by omega) (by rw [hnd]; exact hk')
      rw [h1, h2, hnd] at this
      exact this
    have hmul : (m + 1) * (2 * nd + 6) = m * (2 * nd + 6) + (2 * nd + 6) := Nat.succ_mul _ _
    have hsub : subI .i64 (m : Int) 1 = (m : Int) - 1 := subI_i64 (by omega)
    refine r3Div_shift (m := nd + 1) (by omega) (m * (2 * nd + 6) + nd + 5) Z hZl (fun k' c' hk' => ?_) (dig nd R ++ [0]) [] c k (W64.append.2 ⟨dig_ok _ _, by rw [W64.cons]; exact ⟨by omega, W64.nil⟩⟩) (by omega) (by rw [snoc_len, dig_len]; simp) hZ (by rw [snoc_len, dig_len]; omega)
    obtain ⟨k', rfl⟩ : ∃ j, k' = j + 1 := ⟨k' - 1, by omega⟩
    rw [r3DivMod_L24, r3DivMod_b24, cond_dec, if_neg (by rw [hZl]; omega), hcmp, Option.bind_some, cond_dec, hsub]
    by_cases cc : 2 * R + c < D
    · rw [if_neg (by rw [sgn_lt cc]; decide)]
      have hz2 : Z = dig (nd + 1) (2 * R + c) := by rw [dig_of hZW hZv, hZl]
      have hq : val a / 2 ^ m / D = 2 * Q := by
        rw [hstep, ← hdm, show 2 * (D * Q + R) + c = (2 * R + c) + D * (2 * Q) from by grind, Nat.add_mul_div_left _ _ hDp, Nat.div_eq_of_lt cc, Nat.zero_add]
      have hr : val a / 2 ^ m % D = 2 * R + c := by
        rw [hstep, ← hdm, show 2 * (D * Q + R) + c = (2 * R + c) + D * (2 * Q) from by grind, Nat.add_mul_mod_self_left, Nat.mod_eq_of_lt cc]
      have := hih k' (2 * Q) (2 * R + c) (by omega) hq hr
      rw [hz2, Nat.pow_succ, show Q * (2 ^ m * 2) = 2 * Q * 2 ^ m from by grind]
      exact this
    · have hge : sgn (2 * R + c) D ≥ 0 := by
        rw [sgn, if_neg cc]
        split <;> decide
      rw [if_pos hge]
      have hdv : val (can D) = val ((can D).take (nd + 1)) := by rw [List.take_of_length_le (by omega)]
      refine r3Div_take (m := nd + 1) (by omega) (can_ok D) (m * (2 * nd + 6) + 3) Z (dig (nd + 1) (2 * R + c - D)) hZl hZW hdv (by rw [val_can, hZv]; omega) (by rw [val_can, hZv]) (fun k'' c'' hk'' => ?_) Z [] [] 0 k' rfl rfl W64.nil hZW (by omega) (by simp) (by rw [hZl]; omega)
      obtain ⟨k'', rfl⟩ : ∃ j, k'' = j + 1 := ⟨k'' - 1, by omega⟩
      have hin : m / 64 < (dig nq (Q * 2 ^ (m + 1))).length := by rw [dig_len]; omega
      have hset := set_bit (dig_ok nq (Q * 2 ^ (m + 1))) (m := m) hin (by rw [val_dig _ _ hQlt, Nat.mul_mod_left])
      rw [dig_len, val_dig _ _ hQlt] at hset
      have hs1 : shlI .u64 1 ((m % 64 : Nat) : Int) = ((2 ^ (m % 64) : Nat) : Int) := by
        have h1 := shlI_u64 1 (m % 64)
        have h2 : (2 : Nat) ^ (m % 64) < 2 ^ 64 := Nat.pow_lt_pow_right (by omega) (by omega)
        rw [Nat.one_mul, Nat.mod_eq_of_lt h2] at h1
        exact h1
      rw [r3DivMod_L40, r3DivMod_b40, cond_dec, if_neg (by rw [dig_len]; omega), tdiv64 (by omega), tmod64, inR hin, cond_t, cond_dec, if_pos (by omega), cond_t, Int.toNat_natCast, hs1, hset, hsub]
      have hlt2 : 2 * R + c - D < D := by omega
      have hq : val a / 2 ^ m / D = 2 * Q + 1 := by
        rw [hstep, ← hdm, show 2 * (D * Q + R) + c = (2 * R + c - D) + D * (2 * Q + 1) from by rw [Nat.mul_add]; grind, Nat.add_mul_div_left _ _ hDp, Nat.div_eq_of_lt hlt2, Nat.zero_add]
      have hr : val a / 2 ^ m % D = 2 * R + c - D := by
        rw [hstep, ← hdm, show 2 * (D * Q + R) + c = (2 * R + c - D) + D * (2 * Q + 1) from by rw [Nat.mul_add]; grind, Nat.add_mul_mod_self_left, Nat.mod_eq_of_lt hlt2]
      have := hih k'' (2 * Q + 1) (2 * R + c - D) (by omega) hq hr
      rw [show Q * 2 ^ (m + 1) + 2 ^ m = (2 * Q + 1) * 2 ^ m from by rw [Nat.pow_succ]; grind]
      exact this
theorem L.can {x : List Int} (h : L x) : L (can (val x)) := ⟨can_ok _, by rw [len_can_val h.1]; have := sz_le x; have := h.2; omega⟩
theorem L_le {a b : Nat} (h : a ≤ b) (hb : L (can b)) : L (can a) := ⟨can_ok _, Nat.le_trans (can_len_le h) hb.2⟩
theorem r3DivMod_law {a b : List Int} {t : List Int × List Int × Int} (h : r3DivModF (a, b) = some t) : ∃ k : Nat, r3DivMod_b0 (r3DivMod_L16 k) (r3DivMod_L24 k) (r3DivMod_L40 k) a b = some t := by
  obtain ⟨⟨ha, hb⟩, rfl⟩ := gu_eq.1 h
  dsimp only at *
  have hal := ha.2
  have hbl := hb.2
  have hVD := hb.can
  have hDl := hVD.2
  refine ⟨blen (val a) * (2 * (can (val b)).length + 6) + 2, ?_⟩
  rw [r3DivMod_b0, r3NormF_V hb.V, Option.bind_some, cond_dec]
  by_cases c : val b = 0
  · rw [c, can_zero, if_pos (by simp), if_pos rfl]
  · have hne : (can (val b)).length ≠ 0 := fun h => c (can_nil.1 (List.length_eq_zero_iff.1 h))
    have hbits : r3BitsF a = some (blen (val a) : Int) := gu_pos ha.V
    have hb64 : blen (val a) ≤ 64 * a.length := by
      rw [blen_le_iff, ← pow64]
      exact val_lt ha.1
    have e1 : addI .i64 ((blen (val a) / 64 : Nat) : Int) 1 = ((blen (val a) / 64 + 1 : Nat) : Int) := inc (by omega)
    have e2 : addI .i64 (((can (val b)).length : Nat) : Int) 1 = (((can (val b)).length + 1 : Nat) : Int) := inc (by omega)
    have e3 : subI .i64 ((blen (val a) : Nat) : Int) 1 = (blen (val a) : Int) - 1 := subI_i64 (by omega)
    rw [if_neg (by omega), if_neg c, hbits, Option.bind_some, tdiv64 (by omega), e1, e2, e3]
    rw [decide_eq_true (show (0 : Int) ≤ ((blen (val a) / 64 + 1 : Nat) : Int) by omega), decide_eq_true (show (0 : Int) ≤ (((can (val b)).length + 1 : Nat) : Int) by omega), cond_t, cond_t, decide_eq_true (show ((blen (val a) / 64 + 1 : Nat) : Int) * 8 ≤ 281474976710656 by omega), decide_eq_true (show (((can (val b)).length + 1 : Nat) : Int) * 8 ≤ 281474976710656 by omega), cond_t, cond_t, Int.toNat_natCast, Int.toNat_natCast]
    have hz : val a / 2 ^ blen (val a) = 0 := Nat.div_eq_of_lt (blen_lt _)
    have hrep : ∀ n, List.replicate n (0 : Int) = dig n 0 := fun n => by
      have := dig_val (W64.rep n)
      rw [List.length_replicate, val_rep] at this
      exact this.symm
    have := r3Div_loop ha c hVD (nq := blen (val a) / 64 + 1) (by omega) (by omega) (blen (val a)) _ (Nat.le_refl _) (Nat.le_refl _)
    rw [hz, Nat.zero_div, Nat.zero_mul, Nat.zero_mod] at this
    rw [hrep, hrep]
    exact this
theorem r3DivModF_ok {x y : List Int} (hx : L x) (hy : L y) : r3DivModF (x, y) = some (if val y = 0 then ([], [], 30) else (can (val x / val y), can (val x % val y), 0)) := gu_pos ⟨hx, hy⟩
theorem can_getD0 (v : Nat) : (can v).getD 0 0 = ((v % 18446744073709551616 : Nat) : Int) := by
  by_cases c : v = 0
  · rw [c, can_zero]
    rfl
  · rw [can_pos c]
    rfl
theorem r3DivMod_ok : CtrOk Go.Proofs.Tryz.prog 62 (mkF [.sl (.int .u64), .sl (.int .u64)] [.sl (.int .u64), .sl (.int .u64), .int .i64] r3DivModF) := by
  refine mkF_ok (c := bodyOf Go.Proofs.Tryz.f62) (tab := S.tab) (cts := [(63, mkF [.sl (.int .u64)] [.sl (.int .u64)] r3NormF), (59, mkF [.sl (.int .u64)] [.int .i64] r3BitsF), (80, mkF [.sl (.int .u64), .int .i64] [.int .u64] r3BitF), (71, mkF [.sl (.int .u64), .sl (.int .u64)] [.int .i64] r3CmpF), (81, mkF [.sl (.int .u64), .int .i64] [.int .u64] r3atF)]) (res := [4, 5, 6]) tab_ok hm ⟨r3Norm_ok, r3Bits_ok, r3Bit_ok, r3Cmp_ok, r3at_ok, trivial⟩ Go.Proofs.Tryz.func62 (by kernel_rfl) (by kernel_rfl) (by kernel_rfl) (by kernel_rfl) (by kernel_rfl) ?_
  rintro ⟨a, b⟩ t h
  obtain ⟨k, hk⟩ := r3DivMod_law h
  exact ⟨r3DivMod_h, 3000, k, (r3DivMod_ev k a b).trans hk⟩
end Go.RX.S
