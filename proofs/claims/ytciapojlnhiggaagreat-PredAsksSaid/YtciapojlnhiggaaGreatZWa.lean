/- Powers, by quot and by the document; QuotPows. -/
import Derived.Test.YtciapojlnhiggaaGreatZVc
import Derived.Test.YtciapojlnhiggaaGreatZTc
set_option linter.unusedVariables false
set_option linter.unusedSimpArgs false
namespace Go.RX.S
open Go Go.RX
theorem r3Norm_copy {l : List Int} {t : Nat} (ht : t ≤ l.length) (hl : l.length ≤ 17592186044416) : ∀ (n j k : Nat), j + n = t → n + 1 ≤ k → r3Norm_L12 k l (t : Int) (j : Int) (l.take j) = some (l.take t)
  | n, j, 0, _, hk => by omega
  | 0, j, k + 1, hj, hk => by
    rw [r3Norm_L12, r3Norm_b12, cond_dec, if_neg (by omega), show j = t from by omega]
  | n + 1, j, k + 1, hj, hk => by
    rw [r3Norm_L12, r3Norm_b12, cond_dec, if_pos (by omega), inR (by omega), cond_t, rdI_nat, ← take_snoc (by omega), cond_dec, if_pos (by rw [List.length_take]; omega), inc (by omega)]
    exact r3Norm_copy ht hl n (j + 1) k (by omega) (by omega)
theorem r3Norm_down {l : List Int} (hl : l.length ≤ 17592186044416) : ∀ (i k : Nat), i ≤ l.length → i + l.length + 2 ≤ k → r3Norm_L4 k l (i : Int) = some (l.take (sz (l.take i)))
  | i, 0, _, hk => by omega
  | 0, k + 1, hi, hk => by
    rw [r3Norm_L4, r3Norm_b4, cond_dec, if_neg (by omega)]
    have := r3Norm_copy (l := l) (t := 0) (by omega) hl 0 0 k rfl (by omega)
    simpa [sz] using this
  | i + 1, k + 1, hi, hk => by
    have e : subI .i64 ((i + 1 : Nat) : Int) 1 = (i : Int) := by
      rw [subI_i64 (by omega)]
      omega
    rw [r3Norm_L4, r3Norm_b4, e, inR (by omega), cond_dec, if_pos (by omega), cond_t, cond_dec, rdI_nat, take_snoc (by omega)]
    split
    · rename_i h0
      rw [h0, sz_snoc_zero]
      exact r3Norm_down hl i k (by omega) (by omega)
    · rename_i h0
      rw [sz_snoc_ne h0, List.length_take, Nat.min_eq_left (by omega)]
      exact r3Norm_copy hi hl (i + 1) 0 k (by omega) (by omega)
theorem r3Norm_law {a t : List Int} (h : r3NormF a = some t) : ∃ k : Nat, r3Norm_b0 (r3Norm_L4 k) (r3Norm_L12 k) a = some t := by
  obtain ⟨ha, rfl⟩ := gu_eq.1 h
  refine ⟨a.length + a.length + 2, ?_⟩
  rw [r3Norm_b0, r3Norm_down ha.2 a.length _ (Nat.le_refl _) (Nat.le_refl _), List.take_length, can_val ha.1]
theorem blen_half {w : Nat} (h : w ≠ 0) : blen w = blen (w / 2) + 1 := by
  by_cases c : w / 2 = 0
  · have : w = 1 := by omega
    subst this
    have b0 : blen 0 = 0 := by simp [blen]
    rw [show 1 / 2 = 0 from rfl, b0]
    exact blen_unique (by omega) (.inr (by omega))
  · have := blen_div (x := w) (j := 1) (by rw [Nat.pow_one]; exact c)
    rw [Nat.pow_one] at this
    exact this
theorem r3Bits_word : ∀ (m w n k : Nat), w < 2 ^ m → w < 18446744073709551616 → n + m ≤ 4611686018427387904 → m + 1 ≤ k → r3Bits_L14 k (n : Int) (w : Int) = some ((n + blen w : Nat) : Int)
  | m, w, n, 0, _, _, _, hk => by omega
  | 0, w, n, k + 1, h, hw, hn, hk => by
    obtain rfl : w = 0 := by simpa using h
    rw [r3Bits_L14, r3Bits_b14, cond_dec, if_neg (by omega)]
    simp [blen]
  | m + 1, w, n, k + 1, h, hw, hn, hk => by
    rw [r3Bits_L14, r3Bits_b14, cond_dec]
    by_cases c : w = 0
    · subst c
      rw [if_neg (by omega)]
      simp [blen]
    · have es : shrI .u64 (w : Int) 1 = ((w / 2 : Nat) : Int) := by
        have := shrI_u64 w 1 hw
        rw [Nat.pow_one] at this
        exact this
      rw [Nat.pow_succ] at h
      rw [if_pos (by omega), inc (by omega), es, r3Bits_word m (w / 2) (n + 1) k (by omega) (by omega) (by omega) (by omega), blen_half c]
      congr 2
      omega
theorem r3Bits_down {l : List Int} (hw : W64 l) (hl : l.length ≤ 17592186044416) : ∀ (i k : Nat), i ≤ l.length → i + 67 ≤ k → r3Bits_L4 k l ((i : Int) - 1) = some ((blen (val (l.take i)) : Nat) : Int)
  | i, 0, _, hk => by omega
  | 0, k + 1, hi, hk => by
    rw [r3Bits_L4, r3Bits_b4, cond_dec, if_neg (by omega)]
    simp [blen]
  | i + 1, k + 1, hi, hk => by
    have e : ((i + 1 : Nat) : Int) - 1 = (i : Int) := by omega
    have g := hw.get i
    obtain ⟨d, hd, hd2⟩ := Wd.nat g
    have e2 : subI .i64 (i : Int) 1 = (i : Int) - 1 := subI_i64 (by omega)
    have e3 : mulI .i64 64 (i : Int) = ((64 * i : Nat) : Int) := by
      rw [mulI_i64 (by omega)]
      omega
    rw [e, r3Bits_L4, r3Bits_b4, cond_dec, if_pos (by omega), inR (by omega), cond_t, cond_t, rdI_nat, hd, cond_dec, e2, e3, val_take_succ (by omega), hd, Int.toNat_natCast]
    by_cases c : d = 0
    · subst c
      rw [if_neg (by omega), r3Bits_down hw hl i k (by omega) (by omega), Nat.mul_zero, Nat.add_zero]
    · rw [if_pos (by omega), r3Bits_word 64 d (64 * i) k (by omega) hd2 (by omega) (by omega), blen_top (val_take_lt hw i) c]
theorem r3Bits_law {a : List Int} {t : Int} (h : r3BitsF a = some t) : ∃ k : Nat, r3Bits_b0 (r3Bits_L4 k) (r3Bits_L14 k) a = some t := by
  obtain ⟨ha, rfl⟩ := gu_eq.1 h
  have := ha.2
  refine ⟨a.length + 67, ?_⟩
  rw [r3Bits_b0, subI_i64 (by omega), r3Bits_down ha.1 ha.2 a.length _ (Nat.le_refl _) (Nat.le_refl _), List.take_length]
/-- A row, a digit's multiple of another added. -/
def gmulrow (b a : Nat) : Nat → List Int → List Int → List Int
  | c, [], _ => [(c : Int)]
  | c, y :: ys, s :: ss => (((a * y.toNat + s.toNat + c) % b : Nat) : Int) :: gmulrow b a ((a * y.toNat + s.toNat + c) / b) ys ss
  | c, _ :: _, [] => []
theorem gmul_bound {b a y s c : Nat} (ha : a < b) (hy : y < b) (hs : s < b) (hc : c < b) : (a * y + s + c) / b < b := by
  rw [Nat.div_lt_iff_lt_mul (by omega)]
  obtain ⟨m, rfl⟩ : ∃ m, b = m + 1 := ⟨b - 1, by omega⟩
  have : a * y ≤ m * m := Nat.mul_le_mul (by omega) (by omega)
  have e : (m + 1) * (m + 1) = m * m + m + m + 1 := by grind
  omega
theorem gmulrow_spec {b a : Nat} (ha : a < b) : ∀ (ys ss : List Int) (c : Nat), Dg b ys → Dg b ss → c < b → ys.length = ss.length → gval b (gmulrow b a c ys ss) = gval b ss + a * gval b ys + c ∧ Dg b (gmulrow b a c ys ss) ∧ (gmulrow b a c ys ss).length = ys.length + 1
  | [], [], c, _, _, hc, _ => by
    refine ⟨by simp [gmulrow, gval], ?_, rfl⟩
    rw [gmulrow, Dg.cons]
    exact ⟨⟨by omega, by omega⟩, Dg.nil⟩
  | y :: ys, s :: ss, c, hy, hs, hc, hl => by
    rw [Dg.cons] at hy hs
    have hb := gmul_bound (a := a) (y := y.toNat) (s := s.toNat) (c := c) ha (by omega) (by omega) hc
    obtain ⟨h1, h2, h3⟩ := gmulrow_spec ha ys ss ((a * y.toNat + s.toNat + c) / b) hy.2 hs.2 hb (by simpa using hl)
    refine ⟨?_, ?_, by simp [gmulrow, h3]⟩
    · have hdm := Nat.div_add_mod (a * y.toNat + s.toNat + c) b
      rw [gmulrow, gval_cons, gval_cons, gval_cons, h1, Int.toNat_natCast]
      generalize (a * y.toNat + s.toNat + c) / b = q at *
      generalize (a * y.toNat + s.toNat + c) % b = r at *
      grind
    · have hm : (a * y.toNat + s.toNat + c) % b < b := Nat.mod_lt _ (by omega)
      rw [gmulrow, Dg.cons]
      exact ⟨⟨by omega, by omega⟩, h2⟩
  | [], _ :: _, _, _, _, _, hl => by simp at hl
  | _ :: _, [], _, _, _, _, hl => by simp at hl
/-- The halves of words. -/
def halves : List Int → List Int
  | [] => []
  | x :: xs => ((x.toNat % 4294967296 : Nat) : Int) :: ((x.toNat / 4294967296 : Nat) : Int) :: halves xs
theorem halves_len : ∀ x, (halves x).length = 2 * x.length
  | [] => rfl
  | x :: xs => by simp only [halves, List.length_cons, halves_len xs]; omega
theorem halves_val : ∀ x, gval 4294967296 (halves x) = val x
  | [] => rfl
  | x :: xs => by
    rw [halves, gval_cons, gval_cons, halves_val xs, val_cons, Int.toNat_natCast, Int.toNat_natCast]
    omega
theorem halves_ok : ∀ {x}, W64 x → Dg 4294967296 (halves x)
  | [], _ => Dg.nil
  | x :: xs, h => by
    rw [W64.cons] at h
    rw [halves, Dg.cons, Dg.cons]
    exact ⟨⟨by omega, by omega⟩, ⟨by omega, by omega⟩, halves_ok h.2⟩
theorem halves_get : ∀ (x : List Int) (i : Nat), (halves x).getD i 0 = (((x.getD (i / 2) 0).toNat / 2 ^ (32 * (i % 2)) % 4294967296 : Nat) : Int) ∨ ¬ W64 x
  | [], i => .inl (by simp [halves])
  | x :: xs, i => by
    by_cases hw : W64 (x :: xs)
    · rw [W64.cons] at hw
      left
      match i with
      | 0 => simp [halves]
      | 1 =>
        simp only [halves, List.getD_cons_succ, List.getD_cons_zero]
        rw [show 1 / 2 = 0 from rfl, List.getD_cons_zero, show 32 * (1 % 2) = 32 from rfl, show (2 : Nat) ^ 32 = 4294967296 from rfl]
        omega
      | i + 2 =>
        simp only [halves, List.getD_cons_succ]
        rcases halves_get xs i with h | h
        · rw [h, show (i + 2) / 2 = i / 2 + 1 from by omega, List.getD_cons_succ, show (i + 2) % 2 = i % 2 from by omega]
        · exact absurd hw.2 h
    · exact .inr hw
theorem half_at {x : List Int} (hx : W64 x) {i : Nat} (hi : i ≤ 4611686018427387904) : andI .u64 (shrI .u64 (rdI x (divI .i64 (i : Int) 2)) (mulI .i64 32 (remI (i : Int) 2))) 4294967295 = (halves x).getD i 0 := by
  have e1 : divI .i64 (i : Int) 2 = ((i / 2 : Nat) : Int) := by
    rw [divI, IntWalk.i64_quo _ _ (by omega)]
    omega
  have e2 : remI (i : Int) 2 = ((i % 2 : Nat) : Int) := by
    rw [remI, Int.tmod_eq_emod_of_nonneg (by omega)]
    omega
  have e3 : mulI .i64 32 ((i % 2 : Nat) : Int) = ((32 * (i % 2) : Nat) : Int) := by
    rw [mulI_i64 (by omega)]
    omega
  obtain ⟨d, hd, hd2⟩ := Wd.nat (hx.get (i / 2))
  rw [e1, e2, e3, rdI_nat, hd, shrI_u64 _ _ hd2, lo32 (Nat.lt_of_le_of_lt (Nat.div_le_self _ _) hd2)]
  rcases halves_get x i with h | h
  · rw [h, hd, Int.toNat_natCast]
  · exact absurd hx h
theorem r3Mul_inner {x y : List Int} (hy : W64 y) {i a : Nat} (ha : a < 4294967296) (k : Nat) : ∀ (ys ss pre ypre rest : List Int) (c : Nat), halves y = ypre ++ ys → Dg 4294967296 ss → c < 4294967296 → ys.length = ss.length → pre.length = i + ypre.length → pre.length + ss.length ≤ 4000000000000 →
    r3Mul_L16 (k + ys.length + 1) x y (i : Int) (a : Int) (c : Int) (ypre.length : Int) (pre ++ ss ++ 0 :: rest) = r3Mul_L6 k x y ((i + 1 : Nat) : Int) (pre ++ gmulrow 4294967296 a c ys ss ++ rest)
  | [], [], pre, ypre, rest, c, hh, _, hc, _, hp, hl => by
    have hlen : pre.length < (pre ++ (0 : Int) :: rest).length := by simp
    have hyl := halves_len y
    rw [hh, List.append_nil] at hyl
    simp at hl
    have em : mulI .i64 2 ((y.length : Nat) : Int) = ((ypre.length : Nat) : Int) := by
      rw [mulI_i64 (by omega)]
      omega
    have e1 : addI .i64 (i : Int) ((ypre.length : Nat) : Int) = ((pre.length : Nat) : Int) := by
      rw [addI_i64 (by omega)]
      omega
    have ec : addI .u64 0 (c : Int) = (c : Int) := by
      rw [addI_u64]
      omega
    rw [r3Mul_L16, r3Mul_b16, em, cond_dec, if_neg (by omega), List.append_nil pre, e1, inR hlen, cond_t, cond_t, inc (by omega), Int.toNat_natCast, rdN_mid rfl, ec, wrI_mid rfl]
    simp [gmulrow]
  | h :: ys, s :: ss, pre, ypre, rest, c, hh, hs, hc, hl, hp, hb => by
    rw [Dg.cons] at hs
    simp only [List.length_cons] at hl hb
    have hyl := halves_len y
    rw [hh] at hyl
    simp only [List.length_append, List.length_cons] at hyl
    have hdg := halves_ok hy
    rw [hh, Dg.append, Dg.cons] at hdg
    have hget : (halves y).getD ypre.length 0 = h := by
      rw [hh]
      simp [List.getD_eq_getElem?_getD]
    obtain ⟨hn, rfl⟩ := Int.eq_ofNat_of_zero_le hdg.2.1.1
    obtain ⟨sn, rfl⟩ := Int.eq_ofNat_of_zero_le hs.1.1
    have hnb : hn < 4294967296 := by have := hdg.2.1.2; omega
    have hsb : sn < 4294967296 := by have := hs.1.2; omega
    have hmb := gmul_bound (b := 4294967296) ha hnb hsb hc
    have em : mulI .i64 2 ((y.length : Nat) : Int) = ((2 * y.length : Nat) : Int) := by
      rw [mulI_i64 (by omega)]
      omega
    have e1 : addI .i64 (i : Int) (ypre.length : Int) = ((pre.length : Nat) : Int) := by
      rw [addI_i64 (by omega)]
      omega
    have hlen : pre.length < (pre ++ (sn : Int) :: (ss ++ 0 :: rest)).length := by simp
    have hd2 : divI .i64 (ypre.length : Int) 2 = ((ypre.length / 2 : Nat) : Int) := by
      rw [divI, IntWalk.i64_quo _ _ (by omega)]
      omega
    have hm2 : mulI .i64 32 (remI (ypre.length : Int) 2) = ((32 * (ypre.length % 2) : Nat) : Int) := by
      rw [remI, Int.tmod_eq_emod_of_nonneg (by omega), mulI_i64 (by omega)]
      omega
    have hhalf := half_at hy (i := ypre.length) (by omega)
    rw [hget] at hhalf
    have hin : inRange (divI .i64 (ypre.length : Int) 2) y.length = true := by
      rw [hd2]
      exact inR (by omega)
    have hnn : decide ((0 : Int) ≤ mulI .i64 32 (remI (ypre.length : Int) 2)) = true := by
      rw [hm2, decide_eq_true_eq]
      omega
    obtain ⟨hmac, hmac2⟩ := mac (x := a) (y := hn) (o := sn) (c := c) ha hnb hsb hc
    rw [app_assoc3, List.length_cons, ← Nat.add_assoc, r3Mul_L16, r3Mul_b16, em, cond_dec, if_pos (by omega), hin, hnn, cond_t, cond_t, e1, inR hlen, cond_t, cond_t, Int.toNat_natCast, rdN_mid rfl, hhalf, hmac, hi32 hmac2, lo32 hmac2, inc (by omega), wrI_mid rfl]
    have ih := r3Mul_inner (x := x) hy (i := i) ha k ys ss (pre ++ [(((a * hn + sn + c) % 4294967296 : Nat) : Int)]) (ypre ++ [(hn : Int)]) rest ((a * hn + sn + c) / 4294967296) (by rw [hh]; simp) hs.2 hmb (by omega) (by rw [snoc_len, snoc_len]; omega) (by rw [snoc_len]; omega)
    rw [snoc_len] at ih
    have e3 : pre ++ (((a * hn + sn + c) % 4294967296 : Nat) : Int) :: (ss ++ 0 :: rest) = pre ++ [(((a * hn + sn + c) % 4294967296 : Nat) : Int)] ++ ss ++ 0 :: rest := by simp
    rw [e3]
    refine ih.trans ?_
    rw [gmulrow, Int.toNat_natCast, Int.toNat_natCast]
    congr 1
    simp
  | [], _ :: _, _, _, _, _, _, _, _, hl, _, _ => by simp at hl
  | _ :: _, [], _, _, _, _, _, _, _, hl, _, _ => by simp at hl
/-- Halves put together. -/
def joined : List Int → List Int
  | l :: h :: r => ((h.toNat * 4294967296 + l.toNat : Nat) : Int) :: joined r
  | _ => []
theorem joined_spec : ∀ (n : Nat) (p : List Int), p.length = 2 * n → Dg 4294967296 p → val (joined p) = gval 4294967296 p ∧ W64 (joined p) ∧ (joined p).length = n
  | 0, p, h, _ => by
    obtain rfl : p = [] := List.eq_nil_of_length_eq_zero (by omega)
    exact ⟨rfl, W64.nil, rfl⟩
  | n + 1, l :: h :: r, hl, hd => by
    rw [Dg.cons, Dg.cons] at hd
    obtain ⟨h1, h2, h3⟩ := joined_spec n r (by simp at hl; omega) hd.2.2
    refine ⟨?_, ?_, by simp [joined, h3]⟩
    · rw [joined, val_cons, h1, gval_cons, gval_cons, Int.toNat_natCast]
      omega
    · rw [joined, W64.cons]
      exact ⟨⟨by omega, by omega⟩, h2⟩
  | n + 1, [], hl, _ => by simp at hl
  | n + 1, [_], hl, _ => by simp only [List.length_cons, List.length_nil] at hl; omega
theorem r3Mul_join {z : Int} : ∀ (n : Nat) (p pre acc : List Int) (k : Nat), p.length = 2 * n → Dg 4294967296 p → W64 acc → pre.length = 2 * acc.length → pre.length + 2 * n ≤ 4000000000000 → n + 1 ≤ k →
    r3Mul_L34 k (pre.length : Int) (pre ++ p ++ [z]) acc = some (can (val (acc ++ joined p)))
  | n, p, pre, acc, 0, _, _, _, _, _, hk => by omega
  | 0, p, pre, acc, k + 1, hl, hd, ha, hp, hb, hk => by
    obtain rfl : p = [] := List.eq_nil_of_length_eq_zero (by omega)
    have e : addI .i64 ((pre.length : Nat) : Int) 1 = ((pre.length + 1 : Nat) : Int) := inc (by omega)
    rw [r3Mul_L34, r3Mul_b34, e, cond_dec, if_neg (by simp), r3NormF, gu_pos ⟨ha, by omega⟩, Option.bind_some]
    simp [joined]
  | n + 1, l :: h :: r, pre, acc, k + 1, hl, hd, ha, hp, hb, hk => by
    rw [Dg.cons, Dg.cons] at hd
    obtain ⟨ln, rfl⟩ := Int.eq_ofNat_of_zero_le hd.1.1
    obtain ⟨hn, rfl⟩ := Int.eq_ofNat_of_zero_le hd.2.1.1
    have hlb : ln < 4294967296 := by have := hd.1.2; omega
    have hhb : hn < 4294967296 := by have := hd.2.1.2; omega
    have e : addI .i64 ((pre.length : Nat) : Int) 1 = ((pre.length + 1 : Nat) : Int) := inc (by omega)
    have e2 : addI .i64 ((pre.length : Nat) : Int) 2 = ((pre.length + 2 : Nat) : Int) := by
      rw [addI_i64 (by omega)]
      omega
    have i1 : pre.length < (pre ++ ((ln : Int) :: (hn : Int) :: r) ++ [z]).length := by simp
    have i2 : pre.length + 1 < (pre ++ ((ln : Int) :: (hn : Int) :: r) ++ [z]).length := by simp
    have r1 : rdN (pre ++ ((ln : Int) :: (hn : Int) :: r) ++ [z]) pre.length = (ln : Int) := by
      have : pre ++ ((ln : Int) :: (hn : Int) :: r) ++ [z] = pre ++ (ln : Int) :: ((hn : Int) :: r ++ [z]) := by simp
      rw [this]
      exact rdN_mid rfl
    have r2 : rdN (pre ++ ((ln : Int) :: (hn : Int) :: r) ++ [z]) (pre.length + 1) = (hn : Int) := by
      have : pre ++ ((ln : Int) :: (hn : Int) :: r) ++ [z] = (pre ++ [(ln : Int)]) ++ (hn : Int) :: (r ++ [z]) := by simp
      rw [this]
      exact rdN_mid (snoc_len _ _)
    have eo : orI .u64 (ln : Int) (shlI .u64 (hn : Int) 32) = ((hn * 4294967296 + ln : Nat) : Int) := by
      rw [← glue hhb hlb]
      unfold orI
      rw [BitVec.or_comm]
    rw [r3Mul_L34, r3Mul_b34, e, cond_dec, if_pos (by omega), inR i1, inR i2, cond_t, cond_t, Int.toNat_natCast, Int.toNat_natCast, r1, r2, eo, e2, cond_dec, if_pos (by rw [snoc_len]; omega)]
    have ih := r3Mul_join (z := z) n r (pre ++ [(ln : Int), (hn : Int)]) (acc ++ [((hn * 4294967296 + ln : Nat) : Int)]) k (by simp at hl; omega) hd.2.2 (W64.append.2 ⟨ha, by rw [W64.cons]; exact ⟨⟨by omega, by omega⟩, W64.nil⟩⟩) (by simp; omega) (by simp; omega) (by omega)
    have el : (pre ++ [(ln : Int), (hn : Int)]).length = pre.length + 2 := by simp
    rw [el] at ih
    have ep : pre ++ [(ln : Int), (hn : Int)] ++ r ++ [z] = pre ++ ((ln : Int) :: (hn : Int) :: r) ++ [z] := by simp
    rw [ep] at ih
    refine ih.trans ?_
    simp [joined]
  | n + 1, [], _, _, _, hl, _, _, _, _, _ => by simp at hl
  | n + 1, [_], _, _, _, hl, _, _, _, _, _ => by simp only [List.length_cons, List.length_nil] at hl; omega
theorem r3Mul_outer {x y : List Int} (hx : W64 x) (hy : W64 y) (hlim : x.length + y.length ≤ 1000000000000) : ∀ (n i : Nat) (o : List Int), i + n = 2 * x.length → o.length = i + 2 * y.length → Dg 4294967296 o → gval 4294967296 o = gval 4294967296 ((halves x).take i) * val y →
    r3Mul_L6 (n * (2 * y.length + 2) + (x.length + y.length + 2)) x y (i : Int) (o ++ List.replicate (n + 1) 0) = some (can (val x * val y))
  | 0, i, o, hi, ho, hw, hv => by
    have hhl := halves_len x
    have em : mulI .i64 2 ((x.length : Nat) : Int) = ((2 * x.length : Nat) : Int) := by
      rw [mulI_i64 (by omega)]
      omega
    rw [List.take_of_length_le (by omega), halves_val] at hv
    obtain ⟨j1, j2, j3⟩ := joined_spec (x.length + y.length) o (by omega) hw
    rw [Nat.zero_mul, Nat.zero_add, show x.length + y.length + 2 = (x.length + y.length + 1) + 1 from rfl, r3Mul_L6, r3Mul_b6, em, cond_dec, if_neg (by omega)]
    have := r3Mul_join (z := 0) (x.length + y.length) o [] [] (x.length + y.length + 1) (by omega) hw W64.nil rfl (by simp; omega) (by omega)
    rw [List.nil_append, List.nil_append, j1, hv] at this
    exact this
  | n + 1, i, o, hi, ho, hw, hv => by
    have hhl := halves_len x
    have hlt : i < 2 * x.length := by omega
    have em : mulI .i64 2 ((x.length : Nat) : Int) = ((2 * x.length : Nat) : Int) := by
      rw [mulI_i64 (by omega)]
      omega
    have hd2 : divI .i64 (i : Int) 2 = ((i / 2 : Nat) : Int) := by
      rw [divI, IntWalk.i64_quo _ _ (by omega)]
      omega
    have hm2 : mulI .i64 32 (remI (i : Int) 2) = ((32 * (i % 2) : Nat) : Int) := by
      rw [remI, Int.tmod_eq_emod_of_nonneg (by omega), mulI_i64 (by omega)]
      omega
    have hhalf := half_at hx (i := i) (by omega)
    have hdg := (halves_ok hx).get (by omega) i
    obtain ⟨a, ha⟩ := Int.eq_ofNat_of_zero_le hdg.1
    have hal : a < 4294967296 := by omega
    rw [ha] at hhalf
    have hin : inRange (divI .i64 (i : Int) 2) x.length = true := by
      rw [hd2]
      exact inR (by omega)
    have hnn : decide ((0 : Int) ≤ mulI .i64 32 (remI (i : Int) 2)) = true := by
      rw [hm2, decide_eq_true_eq]
      omega
    have ef : (n + 1) * (2 * y.length + 2) + (x.length + y.length + 2) = ((n * (2 * y.length + 2) + (x.length + y.length + 2)) + 2 * y.length + 1) + 1 := by
      rw [Nat.succ_mul]
      omega
    rw [ef, r3Mul_L6, r3Mul_b6, em, cond_dec, if_pos (by omega), hin, hnn, cond_t, cond_t, hhalf]
    have hpre : (o.take i).length = i := by rw [List.length_take]; omega
    have hss : (o.drop i).length = 2 * y.length := by rw [List.length_drop]; omega
    have hyl := halves_len y
    have ho2 : o ++ List.replicate (n + 1 + 1) 0 = o.take i ++ o.drop i ++ 0 :: List.replicate (n + 1) 0 := by
      rw [List.take_append_drop, List.replicate_succ]
    have := r3Mul_inner (x := x) hy (i := i) hal (n * (2 * y.length + 2) + (x.length + y.length + 2)) (halves y) (o.drop i) (o.take i) [] (List.replicate (n + 1) 0) 0 rfl (hw.drop i) (by omega) (by omega) (by simp [hpre]) (by rw [hpre, hss]; omega)
    rw [hyl] at this
    rw [ho2]
    refine this.trans ?_
    obtain ⟨h1, h2, h3⟩ := gmulrow_spec hal (halves y) (o.drop i) 0 (halves_ok hy) (hw.drop i) (by omega) (by omega)
    refine r3Mul_outer hx hy hlim n (i + 1) _ (by omega) (by rw [List.length_append, h3, hpre]; omega) (Dg.append.2 ⟨hw.take i, h2⟩) ?_
    have ht : (halves x).take (i + 1) = (halves x).take i ++ [(a : Int)] := by rw [take_snoc (by omega), ha]
    rw [gval_append, h1, hpre, halves_val, ht, gval_snoc, List.length_take, Nat.min_eq_left (by omega), Int.toNat_natCast]
    have hvo : gval 4294967296 o = gval 4294967296 (o.take i) + 4294967296 ^ i * gval 4294967296 (o.drop i) := by
      conv => lhs; rw [← List.take_append_drop i o]
      rw [gval_append, hpre]
    rw [hvo] at hv
    generalize 4294967296 ^ i = P at *
    grind
theorem r3Mul_law {a b t : List Int} (h : r3MulF (a, b) = some t) : ∃ k : Nat, r3Mul_b0 (r3Mul_L6 k) (r3Mul_L16 k) (r3Mul_L34 k) a b = some t := by
  obtain ⟨⟨ha, hb, la, lb⟩, rfl⟩ := gu_eq.1 h
  dsimp only at *
  refine ⟨(2 * a.length) * (2 * b.length + 2) + (a.length + b.length + 2), ?_⟩
  have e1 : addI .i64 (mulI .i64 2 (addI .i64 ((a.length : Nat) : Int) ((b.length : Nat) : Int))) 1 = ((2 * b.length + (2 * a.length + 1) : Nat) : Int) := by
    rw [addI_i64 (a := ((a.length : Nat) : Int)) (by omega), mulI_i64 (by omega), addI_i64 (by omega)]
    omega
  rw [r3Mul_b0, e1, Int.toNat_natCast, ← List.replicate_append_replicate]
  have d1 : decide ((0 : Int) ≤ ((2 * b.length + (2 * a.length + 1) : Nat) : Int)) = true := by rw [decide_eq_true_eq]; omega
  have d2 : decide (((2 * b.length + (2 * a.length + 1) : Nat) : Int) * 8 ≤ 281474976710656) = true := by rw [decide_eq_true_eq]; omega
  rw [d1, d2, cond_t, cond_t]
  exact r3Mul_outer ha hb (by omega) (2 * a.length) 0 (List.replicate (2 * b.length) 0) (by omega) (by simp) (Dg.rep (by omega) _) (by rw [gval_rep, List.take_zero]; simp [gval])
theorem r3Norm_ok : CtrOk Go.Proofs.Tryz.prog 63 (mkF [.sl (.int .u64)] [.sl (.int .u64)] r3NormF) := by
  refine mkF_ok (c := bodyOf Go.Proofs.Tryz.f63) (tab := S.tab) (cts := []) (res := [2]) tab_ok hm trivial Go.Proofs.Tryz.func63 (by kernel_rfl) (by kernel_rfl) (by kernel_rfl) (by kernel_rfl) (by kernel_rfl) ?_
  rintro a t h
  obtain ⟨k, hk⟩ := r3Norm_law h
  exact ⟨r3Norm_h, 3000, k, (r3Norm_ev k a).trans hk⟩
theorem r3Bits_ok : CtrOk Go.Proofs.Tryz.prog 59 (mkF [.sl (.int .u64)] [.int .i64] r3BitsF) := by
  refine mkF_ok (c := bodyOf Go.Proofs.Tryz.f59) (tab := S.tab) (cts := []) (res := [2]) tab_ok hm trivial Go.Proofs.Tryz.func59 (by kernel_rfl) (by kernel_rfl) (by kernel_rfl) (by kernel_rfl) (by kernel_rfl) ?_
  rintro a t h
  obtain ⟨k, hk⟩ := r3Bits_law h
  exact ⟨r3Bits_h, 3000, k, (r3Bits_ev k a).trans hk⟩
theorem r3Mul_ok : CtrOk Go.Proofs.Tryz.prog 69 (mkF [.sl (.int .u64), .sl (.int .u64)] [.sl (.int .u64)] r3MulF) := by
  refine mkF_ok (c := bodyOf Go.Proofs.Tryz.f69) (tab := S.tab) (cts := [(63, mkF [.sl (.int .u64)] [.sl (.int .u64)] r3NormF)]) (res := [4]) tab_ok hm ⟨r3Norm_ok, trivial⟩ Go.Proofs.Tryz.func69 (by kernel_rfl) (by kernel_rfl) (by kernel_rfl) (by kernel_rfl) (by kernel_rfl) ?_
  rintro ⟨a, b⟩ t h
  obtain ⟨k, hk⟩ := r3Mul_law h
  exact ⟨r3Mul_h, 3000, k, (r3Mul_ev k a b).trans hk⟩
end Go.RX.S
