/- plumbref03: sums, shifts, comparisons: what they answer. -/
import Derived.Test.YtciapojlnhiggaaGreatZWh
import Derived.Test.YtciapojlnhiggaaGreatZTg
set_option linter.unusedVariables false
set_option linter.unusedSimpArgs false
namespace Go.RX.S
open Go Go.RX
theorem getD_far {l : List Int} {i : Nat} (h : ¬ i < l.length) : l.getD i 0 = 0 := by
  rw [List.getD_eq_getElem?_getD, List.getElem?_eq_none (by omega)]
  rfl
theorem val_take_next (l : List Int) (i : Nat) : val (l.take (i + 1)) = val (l.take i) + 18446744073709551616 ^ i * (l.getD i 0).toNat := by
  by_cases h : i < l.length
  · exact val_take_succ h
  · rw [getD_far h, List.take_of_length_le (by omega), List.take_of_length_le (by omega)]
    simp
theorem r3at_law {a : List Int} {b t : Int} (h : r3atF (a, b) = some t) : ∃ k : Nat, r3at_b0 a b = some t := by
  obtain ⟨h0, rfl⟩ := gu_eq.1 h
  dsimp only at *
  refine ⟨0, ?_⟩
  obtain ⟨i, rfl⟩ := Int.eq_ofNat_of_zero_le h0
  rw [r3at_b0, cond_dec]
  by_cases c : i < a.length
  · rw [if_pos (by simpa using c)]
    simp only [Int.ofNat_eq_natCast, Int.toNat_natCast]
    rw [inR c, cond_t, rdI_nat]
  · rw [if_neg (by simpa using c)]
    simp only [Int.ofNat_eq_natCast, Int.toNat_natCast]
    rw [getD_far c]
theorem r3atF_ok (a : List Int) (i : Nat) : r3atF (a, (i : Int)) = some (a.getD i 0) := by
  rw [r3atF, gu_pos (by show (0 : Int) ≤ (i : Int); omega), Int.toNat_natCast]
theorem r3Bit_law {a : List Int} {b t : Int} (h : r3BitF (a, b) = some t) : ∃ k : Nat, r3Bit_b0 a b = some t := by
  obtain ⟨⟨ha, h0, h1⟩, rfl⟩ := gu_eq.1 h
  dsimp only at *
  refine ⟨0, ?_⟩
  obtain ⟨m, rfl⟩ := Int.eq_ofNat_of_zero_le h0
  simp only [Int.ofNat_eq_natCast, Int.toNat_natCast] at *
  rw [r3Bit_b0, tdiv64 (by omega), tmod64, r3atF_ok, Option.bind_some, cond_dec, if_pos (by omega)]
  have g := ha.1.get (m / 64)
  obtain ⟨d, hd, hd2⟩ := Wd.nat g
  have hv := digit_val (m / 64) ha.1
  have hpow : 2 ^ m = 18446744073709551616 ^ (m / 64) * 2 ^ (m % 64) := by
    rw [pow64, ← Nat.pow_add]
    congr 1
    omega
  have key : val a / 2 ^ m % 2 = d / 2 ^ (m % 64) % 2 := by
    rw [hpow, ← Nat.div_div_eq_div_mul, ← bit_of (r := m % 64) (by omega), hv, hd]
    rfl
  rw [hd, shrI_u64 _ _ hd2]
  have hlt : d / 2 ^ (m % 64) < 18446744073709551616 := Nat.lt_of_le_of_lt (Nat.div_le_self _ _) hd2
  have ea := andI_u64 (d / 2 ^ (m % 64)) 1 hlt (by omega)
  rw [Nat.and_one_is_mod, show ((1 : Nat) : Int) = 1 from rfl] at ea
  rw [ea, key]
theorem r3BitF_ok {a : List Int} (ha : V a) {m : Nat} (hm : m ≤ 4611686018427387904) : r3BitF (a, (m : Int)) = some ((val a / 2 ^ m % 2 : Nat) : Int) := by
  rw [r3BitF, gu_pos ⟨ha, by show (0 : Int) ≤ (m : Int); omega, by show (m : Int) ≤ _; omega⟩, Int.toNat_natCast]
theorem sgn_top {n a b x y : Nat} (ha : a < 18446744073709551616 ^ n) (hb : b < 18446744073709551616 ^ n) : sgn (a + 18446744073709551616 ^ n * x) (b + 18446744073709551616 ^ n * y) = if x = y then sgn a b else sgn x y := by
  by_cases c : x = y
  · rw [if_pos c, c, sgn_add]
  · rw [if_neg c]
    rcases Nat.lt_or_gt_of_ne c with h | h
    · rw [sgn_lt h, sgn_lt (top_lt ha h)]
    · rw [sgn_gt h, sgn_gt (top_lt hb h)]
theorem r3Cmp_loop {a b : List Int} (ha : W64 a) (hb : W64 b) : ∀ (i k : Nat), i ≤ 17609365913600 → i + 1 ≤ k → r3Cmp_L10 k a b ((i : Int) - 1) = some (sgn (val (a.take i)) (val (b.take i)))
  | i, 0, _, hk => by omega
  | 0, k + 1, hi, hk => by
    rw [r3Cmp_L10, r3Cmp_b10, cond_dec, if_neg (by omega)]
    simp [sgn]
  | i + 1, k + 1, hi, hk => by
    have e : ((i + 1 : Nat) : Int) - 1 = (i : Int) := by omega
    obtain ⟨x, hx, _⟩ := Wd.nat (ha.get i)
    obtain ⟨y, hy, _⟩ := Wd.nat (hb.get i)
    rw [e, r3Cmp_L10, r3Cmp_b10, cond_dec, if_pos (by omega), r3atF_ok, r3atF_ok, hx, hy]
    simp only [Option.bind_some]
    rw [cond_dec, cond_dec, subI_i64 (by omega), r3Cmp_loop ha hb i k (by omega) (by omega), val_take_next, val_take_next, sgn_top (val_take_lt ha i) (val_take_lt hb i), hx, hy, Int.toNat_natCast, Int.toNat_natCast]
    by_cases c1 : x < y
    · rw [if_pos (by omega), if_neg (by omega), sgn_lt c1]
    · rw [if_neg (by omega)]
      by_cases c2 : y < x
      · rw [if_pos (by omega), if_neg (by omega), sgn_gt c2]
      · rw [if_neg (by omega), if_pos (by omega)]
theorem r3Cmp_law {a b : List Int} {t : Int} (h : r3CmpF (a, b) = some t) : ∃ k : Nat, r3Cmp_b0 (r3Cmp_L10 k) a b = some t := by
  obtain ⟨⟨ha, hb⟩, rfl⟩ := gu_eq.1 h
  dsimp only at *
  have h1 := ha.2
  have h2 := hb.2
  refine ⟨a.length + b.length + 1, ?_⟩
  rw [r3Cmp_b0, cond_dec]
  by_cases c : a.length < b.length
  · rw [if_pos (by omega), subI_i64 (by omega), r3Cmp_loop ha.1 hb.1 b.length _ (by omega) (by omega), List.take_of_length_le (Nat.le_of_lt c), List.take_length]
  · rw [if_neg (by omega), subI_i64 (by omega), r3Cmp_loop ha.1 hb.1 a.length _ (by omega) (by omega), List.take_of_length_le (by omega), List.take_of_length_le (by omega)]
theorem r3CmpF_U {x y : List Int} (hx : U x) (hy : U y) : r3CmpF (x, y) = some (sgn (val x) (val y)) := gu_pos ⟨hx, hy⟩
theorem r3NormF_V {x : List Int} (hx : V x) : r3NormF x = some (can (val x)) := gu_pos hx
theorem add_digit {x y c : Nat} (hx : x < 18446744073709551616) (hy : y < 18446744073709551616) (hc : c ≤ 1) :
    addI .u64 (x : Int) (y : Int) = (((x + y) % 18446744073709551616 : Nat) : Int) ∧ addI .u64 (((x + y) % 18446744073709551616 : Nat) : Int) (c : Int) = (((x + y + c) % 18446744073709551616 : Nat) : Int) := by
  rw [addI_u64, addI_u64]
  constructor <;> omega
theorem r3Add_loop {a b : List Int} (ha : W64 a) (hb : W64 b) {m : Nat} (hm : m + 1 ≤ 17592186044416) (hA : a.length ≤ m) (hB : b.length ≤ m) : ∀ (n i c k : Nat) (o : List Int), i + n = m → o.length = i → W64 o → c ≤ 1 → val o + 18446744073709551616 ^ i * c = val (a.take i) + val (b.take i) → n + 1 ≤ k →
    r3Add_L14 k a b (m : Int) (c : Int) (i : Int) o = some (can (val a + val b))
  | n, i, c, 0, o, _, _, _, _, _, hk => by omega
  | 0, i, c, k + 1, o, hi, ho, hW, hc, hv, hk => by
    have hv2 : val (o ++ [(c : Int)]) = val a + val b := by
      rw [val_snoc, ho, Int.toNat_natCast, hv, List.take_of_length_le (by omega), List.take_of_length_le (by omega)]
    have hV : V (o ++ [(c : Int)]) := ⟨W64.append.2 ⟨hW, by rw [W64.cons]; exact ⟨by omega, W64.nil⟩⟩, by rw [snoc_len]; omega⟩
    rw [r3Add_L14, r3Add_b14, cond_dec, if_neg (by omega), cond_dec, if_pos (by rw [snoc_len]; omega), r3NormF_V hV, Option.bind_some, hv2]
  | n + 1, i, c, k + 1, o, hi, ho, hW, hc, hv, hk => by
    obtain ⟨x, hx, hx2⟩ := Wd.nat (ha.get i)
    obtain ⟨y, hy, hy2⟩ := Wd.nat (hb.get i)
    obtain ⟨e1, e2⟩ := add_digit hx2 hy2 hc
    have step : ∀ d : Nat, (x + y + c) % 18446744073709551616 + 18446744073709551616 * d = x + y + c → r3Add_L14 k a b (m : Int) (d : Int) ((i + 1 : Nat) : Int) (o ++ [(((x + y + c) % 18446744073709551616 : Nat) : Int)]) = some (can (val a + val b)) := by
      intro d hd
      refine r3Add_loop ha hb hm hA hB n (i + 1) d k _ (by omega) (by rw [snoc_len, ho]) (W64.append.2 ⟨hW, by rw [W64.cons]; exact ⟨by omega, W64.nil⟩⟩) (by omega) ?_ (by omega)
      rw [val_snoc, ho, Int.toNat_natCast, val_take_next, val_take_next, hx, hy, Int.toNat_natCast, Int.toNat_natCast, Nat.pow_succ]
      have := congrArg (fun z => 18446744073709551616 ^ i * z) hd
      grind
    have s0 := step 0
    have s1 := step 1
    rw [show ((0 : Nat) : Int) = 0 from rfl] at s0
    rw [show ((1 : Nat) : Int) = 1 from rfl] at s1
    rw [r3Add_L14, r3Add_b14, cond_dec, if_pos (by omega), r3atF_ok, r3atF_ok, hx, hy]
    simp only [Option.bind_some]
    have hlen : (((o ++ [(((x + y + c) % 18446744073709551616 : Nat) : Int)]).length : Nat) : Int) * 8 ≤ 140737488355328 := by rw [snoc_len, ho]; omega
    rw [e1, e2, inc (by omega)]
    simp only [cond_dec, if_pos hlen]
    by_cases c1 : x + y < 18446744073709551616
    · by_cases c2 : x + y + c < 18446744073709551616
      · rw [if_neg (by omega), if_neg (by omega), s0 (by omega)]
      · rw [if_neg (by omega), if_pos (by omega), s1 (by omega)]
    · rw [if_pos (by omega), s1 (by omega)]
      split <;> rfl
theorem r3Add_law {a b : List Int} {t : List Int} (h : r3AddF (a, b) = some t) : ∃ k : Nat, r3Add_b0 (r3Add_L14 k) a b = some t := by
  obtain ⟨⟨ha, hb, h1, h2⟩, rfl⟩ := gu_eq.1 h
  dsimp only at *
  refine ⟨a.length + b.length + 1, ?_⟩
  rw [r3Add_b0, cond_dec]
  by_cases c : a.length < b.length
  · rw [if_pos (by omega)]
    exact r3Add_loop ha.1 hb.1 (m := b.length) (by omega) (by omega) (by omega) b.length 0 0 _ [] (by omega) rfl W64.nil (by omega) (by simp) (by omega)
  · rw [if_neg (by omega)]
    exact r3Add_loop ha.1 hb.1 (m := a.length) (by omega) (by omega) (by omega) a.length 0 0 _ [] (by omega) rfl W64.nil (by omega) (by simp) (by omega)
theorem sub_digit {x y c : Nat} (hx : x < 18446744073709551616) (hy : y < 18446744073709551616) (hc : c ≤ 1) :
    subI .u64 (subI .u64 (x : Int) (y : Int)) (c : Int) = (((18446744073709551616 + x - y - c) % 18446744073709551616 : Nat) : Int) := by
  rw [subI_u64, subI_u64]
  omega
theorem r3Sub_loop {a b : List Int} (ha : V a) (hb : W64 b) (hle : val b ≤ val a) : ∀ (n i c k : Nat) (o : List Int), i + n = a.length → o.length = i → W64 o → c ≤ 1 → val o + val (b.take i) = val (a.take i) + 18446744073709551616 ^ i * c → n + 1 ≤ k →
    r3Sub_L8 k a b (c : Int) (i : Int) o = some (can (val a - val b))
  | n, i, c, 0, o, _, _, _, _, _, hk => by omega
  | 0, i, c, k + 1, o, hi, ho, hW, hc, hv, hk => by
    have hl := ha.2
    have hvl := val_lt hW
    rw [ho] at hvl
    have hal := val_lt ha.1
    have hspl := val_append (b.take i) (b.drop i)
    rw [List.take_append_drop] at hspl
    have hbl := val_take_lt hb i
    have hlen : (b.take i).length = i ∨ b.drop i = [] := by
      rcases Nat.lt_or_ge b.length i with h | h
      · exact .inr (List.drop_eq_nil_of_le (by omega))
      · exact .inl (by rw [List.length_take]; omega)
    rw [List.take_of_length_le (by omega : a.length ≤ i)] at hv
    have hz : val b = val (b.take i) := by
      rcases hlen with h | h
      · rw [h] at hspl
        have hai : a.length = i := by omega
        rw [hai] at hal
        rcases Nat.eq_zero_or_pos (val (b.drop i)) with h0 | h0
        · rw [hspl, h0]
          simp
        · have := Nat.mul_le_mul_left (18446744073709551616 ^ i) h0
          omega
      · rw [h] at hspl
        rw [hspl]
        simp
    have hc0 : c = 0 := by
      rcases Nat.eq_zero_or_pos c with h0 | h0
      · exact h0
      · obtain rfl : c = 1 := by omega
        omega
    subst hc0
    have hV : V o := ⟨hW, by omega⟩
    rw [r3Sub_L8, r3Sub_b8, cond_dec, if_neg (by omega), r3NormF_V hV, Option.bind_some]
    congr 2
    omega
  | n + 1, i, c, k + 1, o, hi, ho, hW, hc, hv, hk => by
    have hl := ha.2
    obtain ⟨x, hx, hx2⟩ := Wd.nat (ha.1.get i)
    obtain ⟨y, hy, hy2⟩ := Wd.nat (hb.get i)
    have e1 := sub_digit hx2 hy2 hc
    have step : ∀ d : Nat, d ≤ 1 → (18446744073709551616 + x - y - c) % 18446744073709551616 + y + c = x + 18446744073709551616 * d → r3Sub_L8 k a b (d : Int) ((i + 1 : Nat) : Int) (o ++ [(((18446744073709551616 + x - y - c) % 18446744073709551616 : Nat) : Int)]) = some (can (val a - val b)) := by
      intro d hd1 hd
      refine r3Sub_loop ha hb hle n (i + 1) d k _ (by omega) (by rw [snoc_len, ho]) (W64.append.2 ⟨hW, by rw [W64.cons]; exact ⟨by omega, W64.nil⟩⟩) hd1 ?_ (by omega)
      rw [val_snoc, ho, Int.toNat_natCast, val_take_next, val_take_next, hx, hy, Int.toNat_natCast, Int.toNat_natCast, Nat.pow_succ]
      have := congrArg (fun z => 18446744073709551616 ^ i * z) hd
      grind
    have s0 := step 0 (by omega)
    have s1 := step 1 (by omega)
    rw [show ((0 : Nat) : Int) = 0 from rfl] at s0
    rw [show ((1 : Nat) : Int) = 1 from rfl] at s1
    rw [r3Sub_L8, r3Sub_b8, cond_dec, if_pos (by omega), r3atF_ok, Option.bind_some, inR (by omega), cond_t, cond_t, cond_t, rdI_nat, hx, hy, e1, inc (by omega)]
    have hlen : (((o ++ [(((18446744073709551616 + x - y - c) % 18446744073709551616 : Nat) : Int)]).length : Nat) : Int) * 8 ≤ 140737488355328 := by rw [snoc_len, ho]; omega
    simp only [cond_dec, if_pos hlen]
    by_cases c1 : x < y
    · rw [if_pos (by omega), s1 (by omega)]
    · rw [if_neg (by omega)]
      by_cases c2 : x = y
      · rw [if_pos (by omega)]
        by_cases c3 : c = 1
        · rw [if_pos (by omega), s1 (by omega)]
        · rw [if_neg (by omega), s0 (by omega)]
      · rw [if_neg (by omega), s0 (by omega)]
theorem r3Sub_law {a b : List Int} {t : List Int} (h : r3SubF (a, b) = some t) : ∃ k : Nat, r3Sub_b0 (r3Sub_L8 k) a b = some t := by
  obtain ⟨⟨ha, hb, hle⟩, rfl⟩ := gu_eq.1 h
  dsimp only at *
  refine ⟨a.length + 1, ?_⟩
  exact r3Sub_loop ha hb.1 hle a.length 0 0 _ [] (by omega) rfl W64.nil (by omega) (by simp) (by omega)
theorem r3Shl_zeros {a : List Int} {q r : Nat} (n0 : Nat) (hn : n0 = 64 * q + r) (hr : r < 64) (hb : n0 ≤ 4611686018427387904) (hq : q ≤ 17592186044416) {res : Option (List Int)} (K : Nat) (hres : ∀ k, K ≤ k → r3Shl_L18 k a (r : Int) 0 0 (List.replicate q 0) = res) :
    ∀ (n i k : Nat), i + n = q → K + n + 1 ≤ k → r3Shl_L6 k a (n0 : Int) (i : Int) (List.replicate i 0) = res
  | n, i, 0, _, hk => by omega
  | 0, i, k + 1, hi, hk => by
    obtain rfl : i = q := by omega
    rw [r3Shl_L6, r3Shl_b6, tdiv64 (by omega), tmod64, cond_dec, if_neg (by omega), show n0 % 64 = r from by omega]
    exact hres k (by omega)
  | n + 1, i, k + 1, hi, hk => by
    rw [r3Shl_L6, r3Shl_b6, tdiv64 (by omega), tmod64, cond_dec, if_pos (by omega), cond_dec, if_pos (by simp; omega), inc (by omega), ← List.replicate_succ']
    exact r3Shl_zeros n0 hn hr hb hq K hres n (i + 1) k (by omega) (by omega)
theorem shl_cons (r c : Nat) (y : Int) (ys : List Int) : shl r c (y :: ys) = ((y.toNat * 2 ^ r % 18446744073709551616 + c : Nat) : Int) :: shl r (y.toNat * 2 ^ r / 18446744073709551616) ys := rfl
theorem r3Shl_loop {a : List Int} {r : Nat} (hr : r < 64) (haL : a.length ≤ 17592186044416) (res : List Int) (hres : V res) : ∀ (ys pre o : List Int) (c k : Nat), a = pre ++ ys → W64 ys → c < 2 ^ r → o ++ shl r c (ys ++ [0]) = res → ys.length + 1 ≤ k →
    r3Shl_L18 k a (r : Int) (c : Int) (pre.length : Int) o = some (can (val res))
  | ys, pre, o, c, 0, _, _, _, _, hk => by omega
  | [], pre, o, c, k + 1, hx, hW, hc, ho, hk => by
    have e1 : shl r c ([] ++ [0]) = [(c : Int)] := by simp [shl]
    rw [e1] at ho
    have hl := hres.2
    rw [← ho, snoc_len] at hl
    rw [r3Shl_L18, r3Shl_b18, cond_dec, if_neg (by rw [hx, List.append_nil]; omega), ho, cond_dec, if_pos (by rw [← ho, snoc_len]; omega), r3NormF_V hres, Option.bind_some]
  | y :: ys, pre, o, c, k + 1, hx, hW, hc, ho, hk => by
    rw [W64.cons] at hW
    simp only [List.length_cons] at hk
    obtain ⟨yn, rfl, hyn⟩ := Wd.nat hW.1
    rw [List.cons_append, shl_cons, Int.toNat_natCast] at ho
    have hl := hres.2
    have hl2 : o.length + 1 ≤ 17592186044416 := by
      rw [← ho, List.length_append, List.length_cons] at hl
      omega
    have hxl : a.length = pre.length + ys.length + 1 := by rw [hx, List.length_append, List.length_cons]; omega
    have hol : o.length + (ys.length + 2) = res.length := by rw [← ho, List.length_append, List.length_cons, shl_len]; simp
    have hrd : rdI a (pre.length : Int) = (yn : Int) := by rw [hx]; exact rdI_mid rfl
    have es := shlI_u64 yn r
    have hc2 : yn * 2 ^ r / 18446744073709551616 < 2 ^ r := by
      rw [mul_div_pow (by omega)]
      exact div_pow_lt hyn (by omega)
    rw [r3Shl_L18, r3Shl_b18, cond_dec, if_pos (by omega), inR (by omega), cond_t, cond_t, hrd, es, orI_low hr hyn hc, cond_dec, if_pos (by omega), cond_dec, if_pos (by rw [snoc_len]; omega), cond_dec, inc (by omega), ← snoc_len pre (yn : Int)]
    have hx' : a = (pre ++ [(yn : Int)]) ++ ys := by rw [hx]; simp
    have ih : ∀ c' : Nat, c' = yn * 2 ^ r / 18446744073709551616 → r3Shl_L18 k a (r : Int) (c' : Int) (((pre ++ [(yn : Int)]).length : Nat) : Int) (o ++ [((yn * 2 ^ r % 18446744073709551616 + c : Nat) : Int)]) = some (can (val res)) :=
      fun c' e => r3Shl_loop hr haL res hres ys (pre ++ [(yn : Int)]) (o ++ [((yn * 2 ^ r % 18446744073709551616 + c : Nat) : Int)]) c' k hx' hW.2 (by rw [e]; exact hc2) (by rw [e, ← ho]; simp) (by omega)
    by_cases c0 : r = 0
    · subst c0
      rw [if_neg (by omega)]
      exact ih 0 (by rw [Nat.pow_zero]; omega)
    · rw [if_pos (by omega), subI_i64 (by omega), show (64 : Int) - (r : Int) = ((64 - r : Nat) : Int) from by omega, cond_dec, if_pos (by omega), shrI_u64 _ _ hyn]
      exact ih _ (mul_div_pow (by omega)).symm
theorem r3Shl_law {a : List Int} {b : Int} {t : List Int} (h : r3ShlF (a, b) = some t) : ∃ k : Nat, r3Shl_b0 (r3Shl_L6 k) (r3Shl_L18 k) a b = some t := by
  obtain ⟨⟨ha, h0, h1, h2⟩, rfl⟩ := gu_eq.1 h
  dsimp only at *
  obtain ⟨m, rfl⟩ := Int.eq_ofNat_of_zero_le h0
  simp only [Int.ofNat_eq_natCast, Int.toNat_natCast] at *
  have hl := ha.2
  have hm : m = 64 * (m / 64) + m % 64 := by omega
  have hz : W64 (a ++ [0]) := W64.append.2 ⟨ha.1, by rw [W64.cons]; exact ⟨by omega, W64.nil⟩⟩
  have hr : m % 64 < 64 := Nat.mod_lt _ (by omega)
  have hres : V (List.replicate (m / 64) 0 ++ shl (m % 64) 0 (a ++ [0])) := ⟨W64.append.2 ⟨W64.rep _, shl_W64 hr _ _ hz (Nat.pow_pos (by omega))⟩, by rw [List.length_append, List.length_replicate, shl_len, snoc_len]; omega⟩
  have hv : val (List.replicate (m / 64) 0 ++ shl (m % 64) 0 (a ++ [0])) = val a * 2 ^ m := by
    rw [val_append, val_rep, List.length_replicate, shl_val, pow64, Nat.zero_add, Nat.add_zero]
    generalize m / 64 = q at *
    generalize m % 64 = r at *
    rw [hm, Nat.pow_add]
    grind
  refine ⟨a.length + 1 + (m / 64) + 1, ?_⟩
  rw [← hv]
  exact r3Shl_zeros m hm hr (by omega) (by omega) (a.length + 1) (fun k hk => r3Shl_loop hr hl _ hres a [] _ 0 k rfl ha.1 (Nat.pow_pos (by omega)) rfl (by omega)) (m / 64) 0 _ (by omega) (by omega)
theorem r3at_ok : CtrOk Go.Proofs.Tryz.prog 81 (mkF [.sl (.int .u64), .int .i64] [.int .u64] r3atF) := by
  refine mkF_ok (c := bodyOf Go.Proofs.Tryz.f81) (tab := S.tab) (cts := []) (res := [4]) tab_ok hm trivial Go.Proofs.Tryz.func81 (by kernel_rfl) (by kernel_rfl) (by kernel_rfl) (by kernel_rfl) (by kernel_rfl) ?_
  rintro ⟨a, b⟩ t h
  obtain ⟨k, hk⟩ := r3at_law h
  exact ⟨r3at_h, 3000, k, (r3at_ev k a b).trans hk⟩
theorem r3Bit_ok : CtrOk Go.Proofs.Tryz.prog 80 (mkF [.sl (.int .u64), .int .i64] [.int .u64] r3BitF) := by
  refine mkF_ok (c := bodyOf Go.Proofs.Tryz.f80) (tab := S.tab) (cts := [(81, mkF [.sl (.int .u64), .int .i64] [.int .u64] r3atF)]) (res := [4]) tab_ok hm ⟨r3at_ok, trivial⟩ Go.Proofs.Tryz.func80 (by kernel_rfl) (by kernel_rfl) (by kernel_rfl) (by kernel_rfl) (by kernel_rfl) ?_
  rintro ⟨a, b⟩ t h
  obtain ⟨k, hk⟩ := r3Bit_law h
  exact ⟨r3Bit_h, 3000, k, (r3Bit_ev k a b).trans hk⟩
theorem r3Cmp_ok : CtrOk Go.Proofs.Tryz.prog 71 (mkF [.sl (.int .u64), .sl (.int .u64)] [.int .i64] r3CmpF) := by
  refine mkF_ok (c := bodyOf Go.Proofs.Tryz.f71) (tab := S.tab) (cts := [(81, mkF [.sl (.int .u64), .int .i64] [.int .u64] r3atF)]) (res := [4]) tab_ok hm ⟨r3at_ok, trivial⟩ Go.Proofs.Tryz.func71 (by kernel_rfl) (by kernel_rfl) (by kernel_rfl) (by kernel_rfl) (by kernel_rfl) ?_
  rintro ⟨a, b⟩ t h
  obtain ⟨k, hk⟩ := r3Cmp_law h
  exact ⟨r3Cmp_h, 3000, k, (r3Cmp_ev k a b).trans hk⟩
theorem r3Add_ok : CtrOk Go.Proofs.Tryz.prog 70 (mkF [.sl (.int .u64), .sl (.int .u64)] [.sl (.int .u64)] r3AddF) := by
  refine mkF_ok (c := bodyOf Go.Proofs.Tryz.f70) (tab := S.tab) (cts := [(81, mkF [.sl (.int .u64), .int .i64] [.int .u64] r3atF), (63, mkF [.sl (.int .u64)] [.sl (.int .u64)] r3NormF)]) (res := [4]) tab_ok hm ⟨r3at_ok, r3Norm_ok, trivial⟩ Go.Proofs.Tryz.func70 (by kernel_rfl) (by kernel_rfl) (by kernel_rfl) (by kernel_rfl) (by kernel_rfl) ?_
  rintro ⟨a, b⟩ t h
  obtain ⟨k, hk⟩ := r3Add_law h
  exact ⟨r3Add_h, 3000, k, (r3Add_ev k a b).trans hk⟩
theorem r3Sub_ok : CtrOk Go.Proofs.Tryz.prog 72 (mkF [.sl (.int .u64), .sl (.int .u64)] [.sl (.int .u64)] r3SubF) := by
  refine mkF_ok (c := bodyOf Go.Proofs.Tryz.f72) (tab := S.tab) (cts := [(81, mkF [.sl (.int .u64), .int .i64] [.int .u64] r3atF), (63, mkF [.sl (.int .u64)] [.sl (.int .u64)] r3NormF)]) (res := [4]) tab_ok hm ⟨r3at_ok, r3Norm_ok, trivial⟩ Go.Proofs.Tryz.func72 (by kernel_rfl) (by kernel_rfl) (by kernel_rfl) (by kernel_rfl) (by kernel_rfl) ?_
  rintro ⟨a, b⟩ t h
  obtain ⟨k, hk⟩ := r3Sub_law h
  exact ⟨r3Sub_h, 3000, k, (r3Sub_ev k a b).trans hk⟩
theorem r3Shl_ok : CtrOk Go.Proofs.Tryz.prog 31 (mkF [.sl (.int .u64), .int .i64] [.sl (.int .u64)] r3ShlF) := by
  refine mkF_ok (c := bodyOf Go.Proofs.Tryz.f31) (tab := S.tab) (cts := [(63, mkF [.sl (.int .u64)] [.sl (.int .u64)] r3NormF)]) (res := [4]) tab_ok hm ⟨r3Norm_ok, trivial⟩ Go.Proofs.Tryz.func31 (by kernel_rfl) (by kernel_rfl) (by kernel_rfl) (by kernel_rfl) (by kernel_rfl) ?_
  rintro ⟨a, b⟩ t h
  obtain ⟨k, hk⟩ := r3Shl_law h
  exact ⟨r3Shl_h, 3000, k, (r3Shl_ev k a b).trans hk⟩
end Go.RX.S
