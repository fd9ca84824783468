/- plumbref04: numbers by limbs of 32 bits. -/
import Derived.Test.YtandibmpaamfbaaWm
set_option linter.unusedVariables false
set_option linter.unusedSimpArgs false
namespace Go.RX.S
open Go Go.RX

theorem blen_Lim (n : Nat) (hn : n = 64 * lw) (v : Nat) : blen v ≤ n ↔ v < Lim := by
  rw [Lim_pow, ← hn]
  exact blen_le_iff n v
theorem tooLong_law {a : List Int} {t : Bool} (h : tooLongF a = some t) : ∃ k : Nat, tooLong_b0 a = some t := by
  obtain ⟨ha, rfl⟩ := gu_eq.1 h
  refine ⟨0, ?_⟩
  have hb : r3BitsF a = some (blen (val a) : Int) := gu_pos ha
  have hi : blen (val a) ≤ 262144 ↔ val a < Lim := blen_Lim _ rfl _
  rw [tooLong_b0, hb, Option.bind_some]
  refine congrArg some ?_
  rw [Bool.eq_iff_iff, decide_eq_true_eq, decide_eq_true_eq]
  omega
theorem cut4_loop : ∀ (n k : Nat) (l : List Int), l.length = n → n ≤ 17592186044416 → n + 1 ≤ k → cut4_L2 k l = some (l.take (sz l))
  | n, 0, l, _, _, hk => by omega
  | n, k + 1, l, hn, hl, hk => by
    rw [cut4_L2, cut4_b2, cond_dec]
    rcases List.eq_nil_or_concat l with rfl | ⟨Q, x, rfl⟩
    · rw [if_neg (by simp)]
      simp
    · rw [List.concat_eq_append] at hn ⊢
      rw [snoc_len] at hn
      have e1 : subI .i64 (((Q ++ [x]).length : Nat) : Int) 1 = (Q.length : Int) := by rw [snoc_len, subI_i64 (by omega)]; omega
      rw [if_pos (by rw [snoc_len]; omega), e1, inR (by rw [snoc_len]; omega), cond_t, Int.toNat_natCast, rdN_mid rfl, cond_dec]
      by_cases c : x = 0
      · subst c
        rw [if_pos rfl, decide_eq_true (show (0 : Int) ≤ (Q.length : Int) by omega), cond_t, cond_dec, if_pos (show (Q.length : Int) ≤ (((Q ++ [(0 : Int)]).length : Nat) : Int) by rw [snoc_len]; omega), Int.sub_zero, Int.toNat_natCast, List.take_left, cut4_loop Q.length k Q rfl (by omega) (by omega), sz_snoc0, List.take_append_of_le_length (sz_le Q)]
      · rw [if_neg c, sz_snoc_ne c, List.take_of_length_le (by rw [snoc_len]; omega)]
theorem cut4_law {a t : List Int} (h : cut4F a = some t) : ∃ k : Nat, cut4_b0 (cut4_L2 k) a = some t := by
  obtain ⟨ha, rfl⟩ := gu_eq.1 h
  exact ⟨a.length + 1, cut4_loop a.length _ a rfl ha (Nat.le_refl _)⟩
theorem cut4F_ok {l : List Int} (h : l.length ≤ 17592186044416) : cut4F l = some (l.take (sz l)) := gu_pos h
theorem cut4F_dig {b : Nat} (hb : 2 ≤ b) {l : List Int} (hd : Dg b l) (h : l.length ≤ 17592186044416) : cut4F l = some (gcan b (gval b l)) := by rw [cut4F_ok h, gcan_val hb hd]
theorem halves_append : ∀ a b, halves (a ++ b) = halves a ++ halves b
  | [], b => rfl
  | x :: xs, b => by simp [halves, halves_append xs b]
theorem limbs_loop {a : List Int} (ha : W64 a) (hl : a.length ≤ 1000000000) : ∀ (n i k : Nat), i + n = a.length → n + 1 ≤ k → limbs_L6 k a (i : Int) (halves (a.take i)) = some (gcan 4294967296 (val a))
  | n, i, 0, _, hk => by omega
  | 0, i, k + 1, hi, hk => by
    have hh := halves_len a
    rw [limbs_L6, limbs_b6, cond_dec, if_neg (by omega), List.take_of_length_le (by omega), cut4F_dig (by omega) (halves_ok ha) (by omega), Option.bind_some, halves_val]
  | n + 1, i, k + 1, hi, hk => by
    obtain ⟨d, hd, hd2⟩ := Wd.nat (ha.get i)
    have e1 : andI .u64 (d : Int) 4294967295 = ((d % 4294967296 : Nat) : Int) := lo32 hd2
    have e2 := shrI_u64 d 32 hd2
    rw [show ((32 : Nat) : Int) = 32 from rfl, show (2 : Nat) ^ 32 = 4294967296 from rfl] at e2
    have hs : halves (a.take (i + 1)) = halves (a.take i) ++ [((d % 4294967296 : Nat) : Int), ((d / 4294967296 : Nat) : Int)] := by
      rw [take_snoc (by omega), halves_append, hd]
      simp [halves]
    have hh := halves_len (a.take i)
    rw [List.length_take] at hh
    rw [limbs_L6, limbs_b6, cond_dec, if_pos (by omega), inR (by omega), cond_t, cond_t, rdI_nat, hd, e1, e2, ← hs, cond_dec, if_pos (by rw [halves_len, List.length_take]; omega), inc (by omega)]
    exact limbs_loop ha hl n (i + 1) k (by omega) (by omega)
theorem limbs_law {a t : List Int} (h : limbsF a = some t) : ∃ k : Nat, limbs_b0 (limbs_L6 k) a = some t := by
  obtain ⟨⟨ha, hl⟩, rfl⟩ := gu_eq.1 h
  exact ⟨a.length + 1, limbs_loop ha hl a.length 0 _ (by omega) (by omega)⟩
/-- Two limbs are a word. -/
def jn : List Int → List Int
  | [] => []
  | [x] => [x]
  | x :: y :: r => ((y.toNat * 4294967296 + x.toNat : Nat) : Int) :: jn r
theorem jn_spec : ∀ {l : List Int}, Dg 4294967296 l → val (jn l) = gval 4294967296 l ∧ W64 (jn l) ∧ (jn l).length ≤ l.length
  | [], _ => ⟨rfl, W64.nil, by simp [jn]⟩
  | [x], h => by
    rw [Dg.cons] at h
    refine ⟨by simp [jn, val_one, gval_one], ?_, by simp [jn]⟩
    rw [jn, W64.cons]
    exact ⟨by omega, W64.nil⟩
  | x :: y :: r, h => by
    rw [Dg.cons, Dg.cons] at h
    obtain ⟨h1, h2, h3⟩ := jn_spec h.2.2
    refine ⟨?_, ?_, by simp only [jn, List.length_cons]; omega⟩
    · rw [jn, val_cons, Int.toNat_natCast, h1, gval_cons, gval_cons]
      omega
    · rw [jn, W64.cons]
      exact ⟨by omega, h2⟩
theorem words_loop {l : List Int} (hl : l.length ≤ 1000000000) : ∀ (m k : Nat) (pre suf acc : List Int), suf.length ≤ m → l = pre ++ suf → Dg 4294967296 suf → W64 acc → acc.length ≤ pre.length → m + 1 ≤ k →
    words_L6 k l (pre.length : Int) acc = some (can (val (acc ++ jn suf)))
  | m, 0, pre, suf, acc, _, _, _, _, _, hk => by omega
  | m, k + 1, pre, suf, acc, hm, he, hd, hw, ha, hk => by
    have hll : l.length = pre.length + suf.length := by rw [he, List.length_append]
    rw [words_L6, words_b6, cond_dec]
    match suf, hd, hm, he, hll with
    | [], hd, hm, he, hll =>
      rw [if_neg (by simp at hll; omega), cut4F_ok (by omega), Option.bind_some, ← can_val hw]
      simp [jn]
    | [x], hd, hm, he, hll =>
      rw [Dg.cons] at hd
      simp only [List.length_cons, List.length_nil] at hll hm
      obtain ⟨m, rfl⟩ : ∃ j, m = j + 1 := ⟨m - 1, by omega⟩
      have hr : rdI l (pre.length : Int) = x := by rw [he]; exact rdI_mid rfl
      have hx : W64 (acc ++ [x]) := W64.append.2 ⟨hw, by rw [W64.cons]; exact ⟨by omega, W64.nil⟩⟩
      have e2 : addI .i64 ((pre.length : Nat) : Int) 2 = ((pre.length + 2 : Nat) : Int) := by rw [addI_i64 (by omega)]; omega
      obtain ⟨k, rfl⟩ : ∃ j, k = j + 1 := ⟨k - 1, by omega⟩
      rw [if_pos (by omega), inR (by omega), cond_t, hr, inc (by omega), cond_dec, if_neg (by omega), cond_dec, if_pos (by rw [snoc_len]; omega), e2, words_L6, words_b6, cond_dec, if_neg (by omega), cut4F_ok (by rw [snoc_len]; omega), Option.bind_some, ← can_val hx]
      rfl
    | x :: y :: r, hd, hm, he, hll =>
      rw [Dg.cons, Dg.cons] at hd
      simp only [List.length_cons] at hll hm
      obtain ⟨m, rfl⟩ : ∃ j, m = j + 2 := ⟨m - 2, by omega⟩
      have hr : rdI l (pre.length : Int) = x := by rw [he]; exact rdI_mid rfl
      have hr2 : rdI l ((pre.length + 1 : Nat) : Int) = y := by
        rw [he, snoc_app]
        exact rdI_mid (snoc_len _ _)
      have e2 : addI .i64 ((pre.length : Nat) : Int) 2 = ((pre.length + 2 : Nat) : Int) := by rw [addI_i64 (by omega)]; omega
      obtain ⟨xn, rfl⟩ := Int.eq_ofNat_of_zero_le hd.1.1
      obtain ⟨yn, rfl⟩ := Int.eq_ofNat_of_zero_le hd.2.1.1
      try simp only [Int.ofNat_eq_natCast] at *
      have hxn : xn < 4294967296 := by omega
      have hyn : yn < 4294967296 := by omega
      have e3 := shlI_u64 yn 32
      rw [show ((32 : Nat) : Int) = 32 from rfl, show (2 : Nat) ^ 32 = 4294967296 from rfl, Nat.mod_eq_of_lt (by omega)] at e3
      have e4 : orI .u64 (xn : Int) ((yn * 4294967296 : Nat) : Int) = ((yn * 4294967296 + xn : Nat) : Int) := by
        rw [orI_u64 _ _ (by omega) (by omega), Nat.or_comm]
        exact congrArg _ (or_low (n := 32) hxn)
      have hp : pre.length + 2 = (pre ++ [(xn : Int), (yn : Int)]).length := by simp
      rw [if_pos (by omega), inR (by omega), cond_t, hr, inc (by omega), cond_dec, if_pos (by omega), inR (by omega), cond_t, hr2, e3, e4, cond_dec, if_pos (by rw [snoc_len]; omega), e2, hp]
      rw [words_loop hl m k (pre ++ [(xn : Int), (yn : Int)]) r (acc ++ [((yn * 4294967296 + xn : Nat) : Int)]) (by omega) (by rw [he]; simp) hd.2.2 (W64.append.2 ⟨hw, by rw [W64.cons]; exact ⟨by omega, W64.nil⟩⟩) (by simp; omega) (by omega)]
      simp [jn]
theorem words_law {a t : List Int} (h : wordsF a = some t) : ∃ k : Nat, words_b0 (words_L6 k) a = some t := by
  obtain ⟨⟨ha, hl⟩, rfl⟩ := gu_eq.1 h
  refine ⟨a.length + 1, ?_⟩
  have := words_loop hl a.length (a.length + 1) [] a [] (Nat.le_refl _) rfl ha W64.nil (Nat.le_refl _) (Nat.le_refl _)
  rw [List.nil_append, (jn_spec ha).1] at this
  exact this

/-! ### times and by a limb -/
theorem lo32' {v : Nat} (h : v < 18446744073709551616) : andI .u64 (v : Int) 4294967295 = ((v % 4294967296 : Nat) : Int) := lo32 h
theorem put_loop {m : Nat} (hm : m < 4294967296) (N : Nat) (hN : N ≤ 1000000000) : ∀ (ys pre : List Int) (c k : Nat), pre.length + ys.length = N → Dg 4294967296 ys → Dg 4294967296 pre → c < 4294967296 → ys.length + 1 ≤ k →
    ∃ R : List Int, put_L4 k (m : Int) (c : Int) (pre.length : Int) (pre ++ ys) = some R ∧ Dg 4294967296 R ∧ gval 4294967296 R = gval 4294967296 pre + 4294967296 ^ pre.length * (gval 4294967296 ys * m + c) ∧ (R.length = N ∨ (R.length = N + 1 ∧ R.getD N 0 ≠ 0))
  | ys, pre, c, 0, _, _, _, _, hk => by omega
  | [], pre, c, k + 1, hl, hy, hp, hc, hk => by
    simp only [List.length_nil, Nat.add_zero] at hl
    rw [put_L4, put_b4, cond_dec, List.append_nil, if_neg (by omega), cond_dec]
    by_cases c0 : c = 0
    · subst c0
      rw [if_neg (by omega)]
      exact ⟨pre, rfl, hp, by simp [gval], .inl hl⟩
    · rw [if_pos (by omega), cond_dec, if_pos (by rw [snoc_len]; omega)]
      refine ⟨_, rfl, Dg.append.2 ⟨hp, by rw [Dg.cons]; exact ⟨⟨by omega, by omega⟩, Dg.nil⟩⟩, by rw [gval_snoc, Int.toNat_natCast, gval_nil, Nat.zero_mul, Nat.zero_add], .inr ⟨by rw [snoc_len, hl], ?_⟩⟩
      rw [← hl, List.getD_eq_getElem?_getD]
      simp
      omega
  | y :: ys, pre, c, k + 1, hl, hy, hp, hc, hk => by
    rw [Dg.cons] at hy
    simp only [List.length_cons] at hl hk
    obtain ⟨yn, rfl⟩ := Int.eq_ofNat_of_zero_le hy.1.1
    try simp only [Int.ofNat_eq_natCast] at *
    have hyn : yn < 4294967296 := by omega
    have hpr : yn * m + c < 18446744073709551616 := by
      have h1 : yn * m ≤ 4294967295 * 4294967295 := Nat.mul_le_mul (by omega) (by omega)
      omega
    have e1 : mulI .u64 (yn : Int) (m : Int) = ((yn * m : Nat) : Int) := by
      rw [mulI_u64, ← Int.natCast_mul]
      generalize yn * m = q at *
      omega
    have e2 : addI .u64 ((yn * m : Nat) : Int) (c : Int) = ((yn * m + c : Nat) : Int) := by
      rw [addI_u64]
      generalize yn * m = q at *
      omega
    have e3 := shrI_u64 (yn * m + c) 32 hpr
    rw [show ((32 : Nat) : Int) = 32 from rfl, show (2 : Nat) ^ 32 = 4294967296 from rfl] at e3
    have hlen : pre.length < (pre ++ (yn : Int) :: ys).length := by simp
    obtain ⟨R, h1, h2, h3, h4⟩ := put_loop hm N hN ys (pre ++ [(((yn * m + c) % 4294967296 : Nat) : Int)]) ((yn * m + c) / 4294967296) k (by rw [snoc_len]; omega) hy.2 (Dg.append.2 ⟨hp, by rw [Dg.cons]; exact ⟨⟨by omega, by omega⟩, Dg.nil⟩⟩) (by omega) (by omega)
    refine ⟨R, ?_, h2, ?_, h4⟩
    · rw [put_L4, put_b4, cond_dec, if_pos (by simp; omega), inR hlen, cond_t, cond_t, Int.toNat_natCast, rdN_mid rfl, wrI_mid rfl, e1, e2, e3, lo32' hpr, inc (by omega), snoc_app, ← snoc_len pre (((yn * m + c) % 4294967296 : Nat) : Int)]
      exact h1
    · rw [h3, gval_snoc, Int.toNat_natCast, snoc_len, Nat.pow_succ, gval_cons, Int.toNat_natCast]
      have h5 := Nat.div_add_mod (yn * m + c) 4294967296
      generalize (yn * m + c) / 4294967296 = q at *
      generalize (yn * m + c) % 4294967296 = r at *
      have h6 : (yn + 4294967296 * gval 4294967296 ys) * m + c = 4294967296 * q + r + 4294967296 * gval 4294967296 ys * m := by
        rw [h5]
        grind
      rw [h6]
      grind
/-- A row whose top is not 0 is the row of its number. -/
theorem gcan_of {b : Nat} (hb : 2 ≤ b) {R : List Int} (hd : Dg b R) (h : R.length = 0 ∨ b ^ (R.length - 1) ≤ gval b R) : R = gcan b (gval b R) := by
  rw [gcan_val hb hd]
  have h1 := gcan_len_iff hb (R.length - 1) (gval b R)
  have h2 : (gcan b (gval b R)).length = sz R := by
    rw [gcan_val hb hd, List.length_take]
    have := sz_le R
    omega
  have h3 := sz_le R
  have : sz R = R.length := by
    rcases h with h | h
    · omega
    · rw [h2] at h1
      rcases Nat.lt_or_ge (sz R) R.length with h4 | h4
      · exfalso
        have := h1.1 (by omega)
        omega
      · omega
  rw [this, List.take_length]
theorem gcan_ge {b v : Nat} (hb : 2 ≤ b) (h : (gcan b v).length ≠ 0) : b ^ ((gcan b v).length - 1) ≤ v := by
  have := gcan_len_iff hb ((gcan b v).length - 1) v
  rcases Nat.lt_or_ge v (b ^ ((gcan b v).length - 1)) with h1 | h1
  · have := this.2 h1
    omega
  · exact h1
theorem gval_ge {b : Nat} (hb : 2 ≤ b) {R : List Int} (hd : Dg b R) {n : Nat} (hn : R.length = n + 1) (h : R.getD n 0 ≠ 0) : b ^ n ≤ gval b R := by
  obtain ⟨p, x, s, rfl, hp⟩ := splitAt (l := R) (i := n) (by omega)
  have hs : s = [] := by
    rw [List.length_append, List.length_cons] at hn
    exact List.eq_nil_of_length_eq_zero (by omega)
  subst hs
  rw [Dg.append, Dg.cons] at hd
  have hx : x ≠ 0 := by
    rw [List.getD_eq_getElem?_getD, ← hp] at h
    simpa using h
  rw [gval_snoc, hp]
  have h1 : 1 ≤ x.toNat := by have := hd.2.1; omega
  exact Nat.le_trans (Nat.le_mul_of_pos_right _ h1) (Nat.le_add_left _ _)
theorem put_law {a : List Int} {b c : Int} {t : List Int} (h : putF (a, b, c) = some t) : ∃ k : Nat, put_b0 (put_L4 k) a b c = some t := by
  obtain ⟨⟨ha, hl, hb0, hb1, hc0, hc1⟩, rfl⟩ := gu_eq.1 h
  dsimp only at *
  obtain ⟨m, rfl⟩ := Int.eq_ofNat_of_zero_le (Int.le_of_lt hb0)
  obtain ⟨d, rfl⟩ := Int.eq_ofNat_of_zero_le hc0
  try simp only [Int.ofNat_eq_natCast, Int.toNat_natCast] at *
  have hd : Dg 4294967296 a := by rw [ha]; exact gcan_ok (by omega) _
  obtain ⟨R, h1, h2, h3, h4⟩ := put_loop (m := m) (by omega) a.length hl a [] d (a.length + 1) (by simp) hd Dg.nil (by omega) (by omega)
  refine ⟨a.length + 1, ?_⟩
  rw [put_b0]
  refine h1.trans ?_
  rw [gval_nil, List.length_nil, Nat.pow_zero, Nat.one_mul, Nat.zero_add] at h3
  rw [← h3]
  congr 1
  refine gcan_of (by omega) h2 ?_
  rcases h4 with h4 | ⟨h4, h5⟩
  · rcases Nat.eq_zero_or_pos a.length with h0 | h0
    · exact .inl (by omega)
    · refine .inr ?_
      rw [h4, h3]
      have h6 : (gcan 4294967296 (gval 4294967296 a)).length ≠ 0 := by rw [← ha]; omega
      have h7 := gcan_ge (b := 4294967296) (by omega) h6
      rw [← ha] at h7
      have h8 : gval 4294967296 a ≤ gval 4294967296 a * m := Nat.le_mul_of_pos_right _ (by omega)
      omega
  · exact .inr (by rw [h4]; exact gval_ge (by omega) h2 h4 h5)
theorem putF_ok {v m c : Nat} (hl : (gcan 4294967296 v).length ≤ 1000000000) (hm : 0 < m) (hm2 : m < 4294967296) (hc : c < 4294967296) : putF (gcan 4294967296 v, (m : Int), (c : Int)) = some (gcan 4294967296 (v * m + c)) := by
  rw [putF, gu_pos ⟨by show gcan _ v = gcan _ (gval _ (gcan _ v)); rw [gval_gcan (by omega)], hl, by show (0 : Int) < (m : Int); omega, by show (m : Int) < _; omega, by show (0 : Int) ≤ (c : Int); omega, by show (c : Int) < _; omega⟩]
  simp only [Int.toNat_natCast]
  rw [gval_gcan (by omega)]
theorem take4_loop {m : Nat} (hm0 : 0 < m) (hm : m < 4294967296) : ∀ (p : List Int), Dg 4294967296 p → p.length ≤ 1000000000 → ∀ (qs : List Int) (r k : Nat), r < m → p.length + 1 ≤ k →
    ∃ (Q : List Int) (s : Nat), Dg 4294967296 Q ∧ Q.length = p.length ∧ gval 4294967296 p + 4294967296 ^ p.length * r = m * gval 4294967296 Q + s ∧ s < m ∧ take4_L6 k (m : Int) (r : Int) ((p.length : Int) - 1) (p ++ qs) = Option.bind (cut4F (Q ++ qs)) fun t => some (t, (s : Int)) := by
  intro p
  induction p using snoc_ind with
  | h0 =>
    intro _ _ qs r k hr hk
    obtain ⟨k, rfl⟩ : ∃ j, k = j + 1 := ⟨k - 1, by omega⟩
    refine ⟨[], r, Dg.nil, rfl, by simp [gval], hr, ?_⟩
    rw [take4_L6, take4_b6, cond_dec, if_neg (by simp)]
  | h1 p x ih =>
    intro hd hl qs r k hr hk
    obtain ⟨k, rfl⟩ : ∃ j, k = j + 1 := ⟨k - 1, by omega⟩
    rw [Dg.append, Dg.cons] at hd
    rw [snoc_len] at hl hk ⊢
    obtain ⟨xn, rfl⟩ := Int.eq_ofNat_of_zero_le hd.2.1.1
    try simp only [Int.ofNat_eq_natCast] at *
    have hx : xn < 4294967296 := by omega
    have hv : r * 4294967296 + xn < 18446744073709551616 := by omega
    have hs : r * 4294967296 < 18446744073709551616 := Nat.lt_of_le_of_lt (Nat.le_add_right _ _) hv
    have e1 := shlI_u64 r 32
    rw [show ((32 : Nat) : Int) = 32 from rfl, show (2 : Nat) ^ 32 = 4294967296 from rfl, Nat.mod_eq_of_lt hs] at e1
    have e2 : orI .u64 ((r * 4294967296 : Nat) : Int) (xn : Int) = ((r * 4294967296 + xn : Nat) : Int) := by
      rw [orI_u64 _ _ hs (Nat.lt_trans hx (by decide))]
      exact congrArg _ (or_low (n := 32) hx)
    have e3 := tmod_nat (r * 4294967296 + xn) m
    have e4 := tdiv_u64 (b := m) hv
    have e5 : ((p.length + 1 : Nat) : Int) - 1 = (p.length : Int) := by omega
    have e6 : subI .i64 (p.length : Int) 1 = (p.length : Int) - 1 := subI_i64 (by omega)
    have hlen : p.length < (p ++ [(xn : Int)] ++ qs).length := by simp
    have hq : (r * 4294967296 + xn) / m < 4294967296 := by
      rw [Nat.div_lt_iff_lt_mul hm0]
      have : (r + 1) * 4294967296 ≤ m * 4294967296 := Nat.mul_le_mul_right _ (by omega)
      rw [Nat.mul_comm 4294967296]
      exact Nat.lt_of_lt_of_le (Nat.lt_of_lt_of_eq (Nat.add_lt_add_left hx _) (Nat.succ_mul r _).symm) this
    obtain ⟨Q, s, h1, h2, h3, h4, h5⟩ := ih hd.1 (by omega) ((((r * 4294967296 + xn) / m : Nat) : Int) :: qs) ((r * 4294967296 + xn) % m) k (Nat.mod_lt _ hm0) (by omega)
    refine ⟨Q ++ [(((r * 4294967296 + xn) / m : Nat) : Int)], s, Dg.append.2 ⟨h1, by rw [Dg.cons]; exact ⟨⟨Int.natCast_nonneg _, Int.ofNat_lt.2 hq⟩, Dg.nil⟩⟩, by rw [snoc_len, h2], ?_, h4, ?_⟩
    · rw [gval_snoc, gval_snoc, Int.toNat_natCast, Int.toNat_natCast, h2, Nat.pow_succ]
      have h6 := Nat.div_add_mod (r * 4294967296 + xn) m
      generalize (r * 4294967296 + xn) / m = q at *
      generalize (r * 4294967296 + xn) % m = w at *
      have h7 := congrArg (fun z => 4294967296 ^ p.length * z) h6
      grind
    · rw [take4_L6, take4_b6, cond_dec, e5, if_pos (by omega), inR hlen]
      simp only [cond_t, decide_eq_false (show ¬ (m : Int) = 0 by omega), Bool.not_false, Int.toNat_natCast]
      have hr1 : rdN (p ++ [(xn : Int)] ++ qs) p.length = (xn : Int) := by
        rw [← snoc_app]
        exact rdN_mid rfl
      have hw1 : ∀ y : Int, wrI (p ++ [(xn : Int)] ++ qs) p.length y = p ++ y :: qs := fun y => by
        rw [← snoc_app, wrI_mid rfl]
      rw [hr1, hw1, e1, e2, e3, e4, e6, h5]
      simp
theorem take4_law {a : List Int} {b : Int} {t : List Int × Int} (h : take4F (a, b) = some t) : ∃ k : Nat, take4_b0 (take4_L6 k) a b = some t := by
  obtain ⟨⟨ha, hl, hb0, hb1⟩, rfl⟩ := gu_eq.1 h
  dsimp only at *
  obtain ⟨m, rfl⟩ := Int.eq_ofNat_of_zero_le (Int.le_of_lt hb0)
  try simp only [Int.ofNat_eq_natCast, Int.toNat_natCast] at *
  obtain ⟨Q, s, h1, h2, h3, h4, h5⟩ := take4_loop (m := m) (by omega) (by omega) a ha hl [] 0 (a.length + 1) (by omega) (by omega)
  refine ⟨a.length + 1, ?_⟩
  rw [List.append_nil, List.append_nil, cut4F_dig (by omega) h1 (by omega), Option.bind_some] at h5
  rw [Nat.mul_zero, Nat.add_zero] at h3
  have hm : 0 < m := by omega
  have e1 : gval 4294967296 a / m = gval 4294967296 Q := by rw [h3, Nat.mul_add_div hm, Nat.div_eq_of_lt h4, Nat.add_zero]
  have e2 : gval 4294967296 a % m = s := by rw [h3, Nat.mul_add_mod, Nat.mod_eq_of_lt h4]
  rw [e1, e2, take4_b0, subI_i64 (by omega)]
  exact h5
theorem take4F_ok {v m : Nat} (hl : (gcan 4294967296 v).length ≤ 1000000000) (hm : 0 < m) (hm2 : m < 4294967296) : take4F (gcan 4294967296 v, (m : Int)) = some (gcan 4294967296 (v / m), ((v % m : Nat) : Int)) := by
  rw [take4F, gu_pos ⟨gcan_ok (by omega) v, hl, by show (0 : Int) < (m : Int); omega, by show (m : Int) < _; omega⟩]
  simp only [Int.toNat_natCast]
  rw [gval_gcan (by omega)]
theorem Power4_loop {b n : Nat} (hb0 : 0 < b) (hb : b < 4294967296) (hn : n ≤ 1000000) : ∀ (m i k : Nat), i + m = n → m + 1 ≤ k → Power4_L6 k (b : Int) (n : Int) (i : Int) (gcan 4294967296 (b ^ i)) = some (can (b ^ n))
  | m, i, 0, _, hk => by omega
  | m, i, k + 1, hi, hk => by
    have hlen : (gcan 4294967296 (b ^ i)).length ≤ 1000000000 := by
      have : b ^ i < 4294967296 ^ (i + 1) := by
        rw [Nat.pow_succ]
        have h1 : b ^ i ≤ 4294967296 ^ i := Nat.pow_le_pow_left (by omega) _
        have h2 : 0 < 4294967296 ^ i := Nat.pow_pos (by omega)
        omega
      have := gcan_len (by omega) this
      omega
    rw [Power4_L6, Power4_b6, cond_dec]
    cases m with
    | zero =>
      obtain rfl : i = n := by omega
      have hw : wordsF (gcan 4294967296 (b ^ i)) = some (can (b ^ i)) := by
        rw [wordsF, gu_pos ⟨gcan_ok (by omega) _, hlen⟩, gval_gcan (by omega)]
      rw [if_neg (by omega), hw, Option.bind_some]
    | succ m =>
      have hp := putF_ok (c := 0) hlen hb0 hb (by omega)
      rw [Nat.add_zero, ← Nat.pow_succ, show ((0 : Nat) : Int) = 0 from rfl] at hp
      rw [if_pos (by omega), hp, Option.bind_some, inc (by omega)]
      exact Power4_loop hb0 hb hn m (i + 1) k (by omega) (by omega)
theorem Power4_law {a b : Int} {t : List Int} (h : Power4F (a, b) = some t) : ∃ k : Nat, Power4_b0 (Power4_L6 k) a b = some t := by
  obtain ⟨⟨ha0, ha1, hb0, hb1⟩, rfl⟩ := gu_eq.1 h
  dsimp only at *
  obtain ⟨x, rfl⟩ := Int.eq_ofNat_of_zero_le (Int.le_of_lt ha0)
  obtain ⟨n, rfl⟩ := Int.eq_ofNat_of_zero_le hb0
  try simp only [Int.ofNat_eq_natCast, Int.toNat_natCast] at *
  refine ⟨n + 1, ?_⟩
  have h1 : gcan 4294967296 (x ^ 0) = [1] := by
    rw [Nat.pow_zero, gcan_pos (by omega) (by omega), show 1 / 4294967296 = 0 from rfl, gcan_zero]
    rfl
  have := Power4_loop (b := x) (n := n) (by omega) (by omega) (by omega) n 0 (n + 1) (by omega) (by omega)
  rw [h1] at this
  exact this

/-! ### texts by limbs -/
def DG : ByteArray := strOfI [48, 49, 50, 51, 52, 53, 54, 55, 56, 57, 97, 98, 99, 100, 101, 102, 103, 104, 105, 106, 107, 108, 109, 110, 111, 112, 113, 114, 115, 116, 117, 118, 119, 120, 121, 122]
theorem DG_size : DG.size = 36 := strOfI_size _
theorem DG_get {i : Nat} (h : i < 10) : byteAt DG (i : Int) = (i : Int) + 48 := DG_at h
theorem two64 {w : Nat} (h : w ≤ 9223372036854775807) : divI .i64 (w : Int) 2 = ((w / 2 : Nat) : Int) := by
  rw [divI, Int.tdiv_eq_ediv_of_nonneg (by omega), show (w : Int) / 2 = ((w / 2 : Nat) : Int) from (Int.natCast_ediv w 2).symm]
  exact IntWalk.i64_in _ (by omega)
theorem Text4_rev (h0 : List Int) (n : Nat) (hn : n ≤ 1000000000000) : ∀ (m k : Nat) (A M B : List Int), M.length ≤ m → A.length = B.length → A.length + M.length + B.length = n → m + 1 ≤ k →
    Text4_L44 k (A.length : Int) h0 (B ++ M ++ A) = some (strOfI (B ++ M.reverse ++ A), 0)
  | m, 0, A, M, B, _, _, _, hk => by omega
  | m, k + 1, A, M, B, hm, hAB, hl, hk => by
    have hlen : (B ++ M ++ A).length = n := by simp; omega
    have hd := two64 (w := n) (by omega)
    rw [Text4_L44, Text4_b44, cond_dec, hlen, hd]
    by_cases c : 2 ≤ M.length
    · obtain ⟨x, M', y, rfl⟩ := two_ends c
      simp only [List.length_cons, List.length_append, List.length_nil] at hm hl c
      obtain ⟨m, rfl⟩ : ∃ j, m = j + 2 := ⟨m - 2, by omega⟩
      have e1 : subI .i64 (subI .i64 (n : Int) 1) (A.length : Int) = ((A.length + M'.length + 1 : Nat) : Int) := by
        have e0 : subI .i64 (n : Int) 1 = (n : Int) - 1 := subI_i64 (by omega)
        rw [e0, subI_i64 (by omega)]
        omega
      have s1 : B ++ x :: (M' ++ [y]) ++ A = B ++ x :: (M' ++ [y] ++ A) := by simp
      have s2 : B ++ x :: (M' ++ [y]) ++ A = (B ++ x :: M') ++ y :: A := by simp
      have r1 : rdN (B ++ x :: (M' ++ [y]) ++ A) A.length = x := by
        rw [s1]
        exact rdN_mid hAB.symm
      have r2 : rdN (B ++ x :: (M' ++ [y]) ++ A) (A.length + M'.length + 1) = y := by
        rw [s2]
        exact rdN_mid (by simp [hAB]; omega)
      have w1 : wrI (B ++ x :: (M' ++ [y]) ++ A) A.length y = (B ++ y :: M') ++ y :: A := by
        rw [s1, wrI_mid hAB.symm]
        simp
      have w2 : wrI ((B ++ y :: M') ++ y :: A) (A.length + M'.length + 1) x = (B ++ [y]) ++ M' ++ (x :: A) := by
        rw [wrI_mid (by simp [hAB]; omega)]
        simp
      have l1 : ((B ++ y :: M') ++ y :: A).length = n := by simp; omega
      rw [if_pos (by omega), e1]
      simp only [Int.toNat_natCast, r1, r2, w1, w2, l1, inR (show A.length < n by omega), inR (show A.length + M'.length + 1 < n by omega), cond_t]
      rw [inc (by omega)]
      have ih := Text4_rev h0 n hn m k (x :: A) M' (B ++ [y]) (by omega) (by simp [hAB]) (by simp; omega) (by omega)
      rw [List.length_cons] at ih
      rw [ih]
      simp
    · rw [if_neg (by omega)]
      have : M.reverse = M := by
        match M, c with
        | [], _ => rfl
        | [x], _ => rfl
        | _ :: _ :: _, c => simp at c
      rw [this]
/-- The text of a row of digits. -/
def txt (l : List Int) : List Int := if l.length = 0 then [48] else (u48 l).reverse
theorem Text4_end (h0 : List Int) {P : List Int} (hl : P.length ≤ 1000000000000) (k : Nat) (hk : P.length + 1 ≤ k) : (bif decide ((↑(List.length (u48 P)) : Int) = (0 : Int)) then some (strOfI [(48 : Int)], (0 : Int)) else Text4_L44 k (0 : Int) h0 (u48 P)) = some (strOfI (txt P), 0) := by
  rw [cond_dec, u48_len, txt]
  by_cases c : P.length = 0
  · rw [if_pos (by omega), if_pos c]
  · have := Text4_rev h0 P.length hl P.length k [] (u48 P) [] (Nat.le_of_eq (u48_len P)) rfl (by simp [u48_len]) hk
    rw [if_neg (by omega), if_neg c]
    simpa using this
theorem Text4_trim (h0 : List Int) : ∀ (n k : Nat) (P : List Int), P.length = n → n ≤ 1000000000000 → 2 * n + 3 ≤ k → Text4_L34 k h0 (u48 P) = some (strOfI (txt (P.take (sz P))), 0)
  | n, 0, P, _, _, hk => by omega
  | n, k + 1, P, hn, hb, hk => by
    rw [Text4_L34, Text4_b34, cond_dec, u48_len, hn]
    rcases List.eq_nil_or_concat P with rfl | ⟨Q, x, rfl⟩
    · have := Text4_end h0 (P := []) (by simp) k (by simp; omega)
      simp at hn
      subst hn
      rw [if_neg (by simp)]
      exact this
    · rw [List.concat_eq_append] at hn ⊢
      rw [snoc_len] at hn
      have e1 : subI .i64 ((n : Nat) : Int) 1 = (Q.length : Int) := by rw [subI_i64 (by omega)]; omega
      have e2 : rdN (u48 (Q ++ [x])) Q.length = x + 48 := by rw [u48_snoc]; exact rdN_mid (by rw [u48_len])
      rw [if_pos (by omega), e1, inR (by omega), cond_t, Int.toNat_natCast, e2, cond_dec]
      by_cases c : x = 0
      · subst c
        rw [if_pos (by omega), decide_eq_true (show (0 : Int) ≤ (Q.length : Int) by omega), cond_t, decide_eq_true (show (Q.length : Int) ≤ (n : Int) by omega), cond_t, Int.sub_zero, Int.toNat_natCast, u48_snoc, List.take_left' (by rw [u48_len]), Text4_trim h0 Q.length k Q rfl (by omega) (by omega), sz_snoc0, List.take_append_of_le_length (sz_le Q)]
      · have := Text4_end h0 (P := Q ++ [x]) (by rw [snoc_len]; omega) k (by rw [snoc_len]; omega)
        rw [u48_len, snoc_len, hn] at this
        rw [if_neg (by omega), sz_snoc_ne c, List.take_of_length_le (by rw [snoc_len]; omega)]
        exact this
theorem Text4_inner {c : Int} {q : List Int} {res : Option (ByteArray × Int)} : ∀ (n i r k K : Nat) (P : List Int), i + n = 9 → r < 4294967296 → P.length + n ≤ 1000000000000 → (∀ k, K ≤ k → Text4_L18 k 10 DG c 9 q (u48 (P ++ dg n r)) = res) → K + n + 1 ≤ k → Text4_L26 k 10 DG c 9 (r : Int) (i : Int) (u48 P) q = res
  | n, i, r, 0, K, P, _, _, _, _, hk => by omega
  | 0, i, r, k + 1, K, P, hi, hr, hl, hres, hk => by
    rw [Text4_L26, Text4_b26, cond_dec, if_neg (by omega)]
    rw [dg, List.append_nil] at hres
    exact hres k (by omega)
  | n + 1, i, r, k + 1, K, P, hi, hr, hl, hres, hk => by
    have e1 := tmod_nat r 10
    have e2 := tdiv_u64 (a := r) (b := 10) (by omega)
    rw [show ((10 : Nat) : Int) = 10 from rfl] at e1 e2
    have hm : r % 10 < 10 := Nat.mod_lt _ (by omega)
    have e3 : cvI .i64 ((r % 10 : Nat) : Int) = ((r % 10 : Nat) : Int) := cvI_i64 (by omega)
    rw [Text4_L26, Text4_b26, cond_dec, if_pos (by omega), cv10, e1, e2, e3, DG_get hm, DG_size, inR (show r % 10 < 36 by omega), cond_t, decide_eq_false (show ¬ (10 : Int) = 0 by decide), ← u48_snoc, cond_dec, if_pos (by rw [u48_len, snoc_len]; omega), inc (by omega)]
    rw [Bool.not_false, cond_t, cond_t]
    refine Text4_inner n (i + 1) (r / 10) k K (P ++ [((r % 10 : Nat) : Int)]) (by omega) (by omega) (by rw [snoc_len]; omega) (fun k' hk' => ?_) (by omega)
    rw [List.append_assoc]
    exact hres k' hk'
theorem gcan_nil_iff {b v : Nat} (hb : 2 ≤ b) : (gcan b v).length = 0 ↔ v = 0 := by
  have := gcan_len_iff hb 0 v
  rw [Nat.pow_zero] at this
  omega
theorem txt_dec (X : Nat) : txt (gcan 10 X) = dec10 X := by
  rw [txt, dec10]
  by_cases c : X = 0
  · rw [if_pos c, if_pos ((gcan_nil_iff (by omega)).2 c)]
  · rw [if_neg c, if_neg (fun h => c ((gcan_nil_iff (by omega)).1 h))]
    rfl
theorem ten9 : (10 : Nat) ^ 9 = 1000000000 := by decide
theorem gcan_len_le {b v w : Nat} (hb : 2 ≤ b) (h : v ≤ w) : (gcan b v).length ≤ (gcan b w).length :=
  (gcan_len_iff hb _ _).2 (Nat.lt_of_le_of_lt h ((gcan_len_iff hb _ _).1 (Nat.le_refl _)))
theorem Text4_loop {n : Nat} (hn : n ≤ 1000000000) {X : Nat} (hX : X < 18446744073709551616 ^ n) : ∀ (v k : Nat) (P : List Int), Dg 10 P → (gcan 4294967296 v).length ≤ 1000000000 → gval 10 P + 10 ^ P.length * v = X → P.length ≤ 64 * n + 9 → v * 11 + 2 * (64 * n + 9) + 5 ≤ k →
    Text4_L18 k 10 DG 1000000000 9 (gcan 4294967296 v) (u48 P) = some (strOfI (dec10 X), 0) := by
  intro v
  induction v using Nat.strongRecOn with
  | _ v ih =>
    intro k P hP hV hval hl hk
    obtain ⟨k, rfl⟩ : ∃ j, k = j + 1 := ⟨k - 1, by omega⟩
    rw [Text4_L18, Text4_b18, cond_dec]
    by_cases c : v = 0
    · subst c
      rw [gcan_zero, if_neg (by simp), Text4_trim [] P.length k P rfl (by omega) (by omega), ← gcan_val (by omega) hP]
      rw [Nat.mul_zero, Nat.add_zero] at hval
      rw [hval, txt_dec]
    · have hne : (gcan 4294967296 v).length ≠ 0 := fun h => c ((gcan_nil_iff (by omega)).1 h)
      have hq := take4F_ok (v := v) (m := 1000000000) hV (by omega) (by omega)
      rw [show ((1000000000 : Nat) : Int) = 1000000000 from rfl] at hq
      have hpl := len_of_val c (by omega : 10 ^ P.length * v ≤ X) hX
      have hlt : v / 1000000000 < v := Nat.div_lt_self (by omega) (by omega)
      have hml := Nat.mod_lt v (show 0 < 1000000000 by omega)
      rw [if_pos (by omega), hq, Option.bind_some]
      dsimp only
      refine Text4_inner 9 0 (v % 1000000000) k (v / 1000000000 * 11 + 2 * (64 * n + 9) + 5) P (by omega) (by omega) (by omega) (fun k' hk' => ?_) (by omega)
      refine ih _ hlt k' _ (Dg.append.2 ⟨hP, dg_ok _ _⟩) (Nat.le_trans (gcan_len_le (by omega) (Nat.div_le_self _ _)) hV) ?_ (by rw [List.length_append, dg_len]; omega) hk'
      rw [gval_append, dg_val 9 _ (by rw [ten9]; omega), List.length_append, dg_len, Nat.pow_add, ten9]
      have := Nat.div_add_mod v 1000000000
      generalize v / 1000000000 = a at *
      generalize v % 1000000000 = b at *
      rw [← hval, ← this]
      grind
theorem Text4_law {a : List Int} {b : Int} {t : ByteArray × Int} (h : Text4F (a, b) = some t) : ∃ k : Nat, Text4_b0 (Text4_L18 k) (Text4_L26 k) (Text4_L34 k) (Text4_L44 k) a b = some t := by
  obtain ⟨⟨ha, hl, hb⟩, rfl⟩ := gu_eq.1 h
  dsimp only at *
  subst hb
  have hs : step4F 10 = some (1000000000, 9) := gu_pos rfl
  have ht : tooLongF a = some (decide (¬ val a < Lim)) := gu_pos ha
  refine ⟨val a * 11 + 2 * (64 * a.length + 9) + 5, ?_⟩
  rw [Text4_b0, cond_dec, if_neg (by omega), cond_dec, if_neg (by omega), ht, Option.bind_some]
  by_cases c : val a < Lim
  · have hg : (gcan 4294967296 (val a)).length ≤ 1000000000 := by
      obtain ⟨m, hm⟩ : ∃ m, m = 2 * lw := ⟨_, rfl⟩
      have h1 : val a < 4294967296 ^ m := by
        rw [hm, Nat.pow_mul, show (4294967296 : Nat) ^ 2 = 18446744073709551616 from rfl]
        have c' := c
        rw [Lim] at c'
        exact c'
      have h2 := gcan_len (show 2 ≤ 4294967296 by omega) h1
      rw [lw_eq] at hm
      omega
    have hlim : limbsF a = some (gcan 4294967296 (val a)) := gu_pos ⟨ha.1, hl⟩
    rw [decide_eq_false (fun h => h c), cond_f, hs, Option.bind_some, hlim, Option.bind_some, if_pos c]
    exact Text4_loop hl (val_lt ha.1) (val a) _ [] Dg.nil hg (by simp [gval]) (by simp) (Nat.le_refl _)
  · rw [decide_eq_true c, cond_t, if_neg c]
theorem Text4F_ok {x : List Int} (hx : V x) (hl : x.length ≤ 1000000000) (h : val x < Lim) : Text4F (x, 10) = some (strOfI (dec10 (val x)), 0) := by
  rw [Text4F, gu_pos ⟨hx, hl, rfl⟩, if_pos h]
theorem Count4_law {a : List Int} {t : Int} (h : Count4F a = some t) : ∃ k : Nat, Count4_b0 a = some t := by
  obtain ⟨⟨ha, hl, hv⟩, rfl⟩ := gu_eq.1 h
  refine ⟨0, ?_⟩
  rw [Count4_b0, Text4F_ok ha hl hv, Option.bind_some, strOfI_size]
theorem tooLong_ok : CtrOk Go.Proofs.Try.prog 162 (mkF [.sl (.int .u64)] [.bool] tooLongF) := by
  refine mkF_ok (c := bodyOf Go.Proofs.Try.f162) (tab := S.tab) (cts := [(118, mkF [.sl (.int .u64)] [.int .i64] r3BitsF)]) (res := [2]) tab_ok hm ⟨r3Bits_ok, trivial⟩ Go.Proofs.Try.func162 (by kernel_rfl) (by kernel_rfl) (by kernel_rfl) (by kernel_rfl) (by kernel_rfl) ?_
  rintro a t h
  obtain ⟨k, hk⟩ := tooLong_law h
  exact ⟨tooLong_h, 3000, k, (tooLong_ev k a).trans hk⟩

theorem cut4_ok : CtrOk Go.Proofs.Try.prog 166 (mkG [.c 36 (.int .u64)] [.o 36 (.int .u64)] cut4F) := by
  refine mkG_ok (c := bodyOf Go.Proofs.Try.f166) (tab := S.tab) (cts := []) (res := [.tmp 2]) (fm := [(2, .vec 36)]) tab_ok hm trivial Go.Proofs.Try.func166 (by kernel_rfl) (by kernel_rfl) (by kernel_rfl) (by kernel_rfl) (by kernel_rfl) ?_
  rintro a t h
  obtain ⟨k, hk⟩ := cut4_law h
  exact ⟨cut4_h, 3000, k, (cut4_ev k a).trans hk⟩

theorem limbs_ok : CtrOk Go.Proofs.Try.prog 164 (mkG [.v (.sl (.int .u64))] [.o 36 (.int .u64)] limbsF) := by
  refine mkG_ok (c := bodyOf Go.Proofs.Try.f164) (tab := S.tab) (cts := [(166, mkG [.c 36 (.int .u64)] [.o 36 (.int .u64)] cut4F)]) (res := [.tmp 2]) (fm := [(2, .vec 36)]) tab_ok hm ⟨cut4_ok, trivial⟩ Go.Proofs.Try.func164 (by kernel_rfl) (by kernel_rfl) (by kernel_rfl) (by kernel_rfl) (by kernel_rfl) ?_
  rintro a t h
  obtain ⟨k, hk⟩ := limbs_law h
  exact ⟨limbs_h, 3000, k, (limbs_ev k a).trans hk⟩

theorem words_ok : CtrOk Go.Proofs.Try.prog 156 (mkF [.sl (.int .u64)] [.sl (.int .u64)] wordsF) := by
  refine mkF_ok (c := bodyOf Go.Proofs.Try.f156) (tab := S.tab) (cts := [(166, mkG [.c 36 (.int .u64)] [.o 36 (.int .u64)] cut4F)]) (res := [2]) tab_ok hm ⟨cut4_ok, trivial⟩ Go.Proofs.Try.func156 (by kernel_rfl) (by kernel_rfl) (by kernel_rfl) (by kernel_rfl) (by kernel_rfl) ?_
  rintro a t h
  obtain ⟨k, hk⟩ := words_law h
  exact ⟨words_h, 3000, k, (words_ev k a).trans hk⟩

theorem put_ok : CtrOk Go.Proofs.Try.prog 155 (mkG [.c 36 (.int .u64), .v (.int .u64), .v (.int .u64)] [.o 36 (.int .u64)] putF) := by
  refine mkG_ok (c := bodyOf Go.Proofs.Try.f155) (tab := S.tab) (cts := []) (res := [.tmp 6]) (fm := [(6, .vec 36)]) tab_ok hm trivial Go.Proofs.Try.func155 (by kernel_rfl) (by kernel_rfl) (by kernel_rfl) (by kernel_rfl) (by kernel_rfl) ?_
  rintro ⟨a, b, c⟩ t h
  obtain ⟨k, hk⟩ := put_law h
  exact ⟨put_h, 3000, k, (put_ev k a b c).trans hk⟩

theorem take4_ok : CtrOk Go.Proofs.Try.prog 165 (mkG [.c 36 (.int .u64), .v (.int .u64)] [.o 36 (.int .u64), .v (.int .u64)] take4F) := by
  refine mkG_ok (c := bodyOf Go.Proofs.Try.f165) (tab := S.tab) (cts := [(166, mkG [.c 36 (.int .u64)] [.o 36 (.int .u64)] cut4F)]) (res := [.tmp 4, .tmp 5]) (fm := [(4, .vec 36)]) tab_ok hm ⟨cut4_ok, trivial⟩ Go.Proofs.Try.func165 (by kernel_rfl) (by kernel_rfl) (by kernel_rfl) (by kernel_rfl) (by kernel_rfl) ?_
  rintro ⟨a, b⟩ t h
  obtain ⟨k, hk⟩ := take4_law h
  exact ⟨take4_h, 3000, k, (take4_ev k a b).trans hk⟩

theorem Power4_ok : CtrOk Go.Proofs.Try.prog 146 (mkF [.int .u64, .int .i64] [.sl (.int .u64)] Power4F) := by
  refine mkF_ok (c := bodyOf Go.Proofs.Try.f146) (tab := S.tab) (cts := [(155, mkG [.c 36 (.int .u64), .v (.int .u64), .v (.int .u64)] [.o 36 (.int .u64)] putF), (156, mkF [.sl (.int .u64)] [.sl (.int .u64)] wordsF)]) (res := [4]) tab_ok hm ⟨put_ok, words_ok, trivial⟩ Go.Proofs.Try.func146 (by kernel_rfl) (by kernel_rfl) (by kernel_rfl) (by kernel_rfl) (by kernel_rfl) ?_
  rintro ⟨a, b⟩ t h
  obtain ⟨k, hk⟩ := Power4_law h
  exact ⟨Power4_h, 3000, k, (Power4_ev k a b).trans hk⟩

theorem Text4_ok : CtrOk Go.Proofs.Try.prog 154 (mkF [.sl (.int .u64), .int .i64] [.str, .int .i64] Text4F) := by
  refine mkF_ok (c := bodyOf Go.Proofs.Try.f154) (tab := S.tab) (cts := [(162, mkF [.sl (.int .u64)] [.bool] tooLongF), (163, mkF [.int .i64] [.int .u64, .int .i64] step4F), (164, mkG [.v (.sl (.int .u64))] [.o 36 (.int .u64)] limbsF), (165, mkG [.c 36 (.int .u64), .v (.int .u64)] [.o 36 (.int .u64), .v (.int .u64)] take4F)]) (res := [4, 5]) tab_ok hm ⟨tooLong_ok, step4_ok, limbs_ok, take4_ok, trivial⟩ Go.Proofs.Try.func154 (by kernel_rfl) (by kernel_rfl) (by kernel_rfl) (by kernel_rfl) (by kernel_rfl) ?_
  rintro ⟨a, b⟩ t h
  obtain ⟨k, hk⟩ := Text4_law h
  exact ⟨Text4_h, 3000, k, (Text4_ev k a b).trans hk⟩

theorem Count4_ok : CtrOk Go.Proofs.Try.prog 145 (mkF [.sl (.int .u64)] [.int .i64] Count4F) := by
  refine mkF_ok (c := bodyOf Go.Proofs.Try.f145) (tab := S.tab) (cts := [(154, mkF [.sl (.int .u64), .int .i64] [.str, .int .i64] Text4F)]) (res := [2]) tab_ok hm ⟨Text4_ok, trivial⟩ Go.Proofs.Try.func145 (by kernel_rfl) (by kernel_rfl) (by kernel_rfl) (by kernel_rfl) (by kernel_rfl) ?_
  rintro a t h
  obtain ⟨k, hk⟩ := Count4_law h
  exact ⟨Count4_h, 3000, k, (Count4_ev k a).trans hk⟩

end Go.RX.S
