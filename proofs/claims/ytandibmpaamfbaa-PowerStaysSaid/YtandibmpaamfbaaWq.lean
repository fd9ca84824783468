/- plumblaw08: comparisons; the laws. -/
import Derived.Test.YtandibmpaamfbaaWp
set_option linter.unusedVariables false
set_option linter.unusedSimpArgs false
namespace Go.RX.S
open Go Go.RX

theorem blen_mul_le {a b p q : Nat} (ha : blen a ≤ p) (hb : blen b ≤ q) : blen (a * b) ≤ p + q := by
  rw [blen_le_iff] at *
  rw [Nat.pow_add]
  exact Nat.mul_lt_mul'' ha hb
theorem blen_Lim' {v n : Nat} (h : blen v ≤ n) (hn : n ≤ 262144) : v < Lim := pow_Lim ((blen_le_iff _ _).1 h) hn
theorem shl8F_can {v n K : Nat} (h : blen v ≤ K) (hK : K ≤ 20000) (hn : n ≤ 20000) : shl8F (can v, (n : Int)) = some (can (v * 2 ^ n)) := by
  rw [shl8F, gu_pos ⟨V_can (blen_Lim' h (by omega)), by show (0 : Int) ≤ (n : Int); omega, by show (n : Int) ≤ _; omega, by show blen (val (can v)) ≤ _; rw [val_can]; omega⟩, val_can, Int.toNat_natCast]
theorem shl8F_1 {n : Nat} (hn : n ≤ 20000) : shl8F ([1], (n : Int)) = some (can (2 ^ n)) := by
  have := shl8F_can (v := 1) (n := n) ((blen_le_iff 1 1).2 (by omega)) (by omega) hn
  rw [can_one, Nat.one_mul] at this
  exact this
theorem mul8F_can {v w p q : Nat} (h : blen v ≤ p) (h2 : blen w ≤ q) (hp : p ≤ 50000) (hq : q ≤ 50000) : mul8F (can v, can w) = some (can (v * w)) := by
  rw [mul8F, gu_pos ⟨V_can (blen_Lim' h (by omega)), V_can (blen_Lim' h2 (by omega)), by show val (can v) * val (can w) < Lim; rw [val_can, val_can]; exact blen_Lim' (blen_mul_le h h2) (by omega)⟩, val_can, val_can]
theorem mul8F_1 {w q : Nat} (h2 : blen w ≤ q) (hq : q ≤ 50000) : mul8F ([1], can w) = some (can w) := by
  have := mul8F_can (v := 1) ((blen_le_iff 1 1).2 (by omega)) h2 (by omega) hq
  rw [can_one, Nat.one_mul] at this
  exact this
theorem cmp8 {v w p q : Nat} (h : blen v ≤ p) (h2 : blen w ≤ q) (hp : p ≤ 100000) (hq : q ≤ 100000) : nCmpF (can v, can w) = some (sgn v w) := by
  rw [nCmpF_ok (V_can (blen_Lim' h (by omega))) (V_can (blen_Lim' h2 (by omega))), val_can, val_can]
theorem cmp8_1 {v p : Nat} (h : blen v ≤ p) (hp : p ≤ 100000) : nCmpF (can v, [1]) = some (sgn v 1) := by
  rw [← can_one]
  exact cmp8 h ((blen_le_iff 1 1).2 (by omega)) hp (by omega)
theorem cmp8_1' {v p : Nat} (h : blen v ≤ p) (hp : p ≤ 100000) : nCmpF ([1], can v) = some (sgn 1 v) := by
  rw [← can_one]
  exact cmp8 ((blen_le_iff 1 1).2 (by omega)) h (by omega) hp
theorem blen2 {n : Nat} : blen (2 ^ n) ≤ n + 1 := blen_pow_lt (by omega)
theorem blen10 {n : Nat} : blen (10 ^ n) ≤ 4 * n + 1 := by
  rw [blen_le_iff, Nat.pow_succ, Nat.pow_mul]
  have h1 : 10 ^ n ≤ (2 ^ 4) ^ n := Nat.pow_le_pow_left (by omega) _
  have h2 : 0 < (2 ^ 4) ^ n := Nat.pow_pos (by omega)
  omega
theorem blen5 {n : Nat} : blen (5 ^ n) ≤ 3 * n + 1 := by
  rw [blen_le_iff, Nat.pow_succ, Nat.pow_mul]
  have h1 : 5 ^ n ≤ (2 ^ 3) ^ n := Nat.pow_le_pow_left (by omega) _
  have h2 : 0 < (2 ^ 3) ^ n := Nat.pow_pos (by omega)
  omega
theorem sgn_le' (a b : Nat) : decide (sgn a b ≤ 0) = decide (a ≤ b) := decide_eq_decide.2 sgn_le
theorem against_law {a : List Int} {b c : Int} {t : Int} (h : againstF (a, b, c) = some t) : ∃ k : Nat, against_b0 a b c = some t := by
  obtain ⟨⟨ha, hv, hb0, hb1, hc0, hc1⟩, rfl⟩ := gu_eq.1 h
  dsimp only at *
  refine ⟨0, ?_⟩
  have hI : Five5F c = some (if 112899 < c then ([], 21) else powF 5 c) := gu_pos (by unfold I64; omega)
  have hsa : ∀ n : Nat, n ≤ 20000 → shl8F (a, (n : Int)) = some (can (val a * 2 ^ n)) := fun n hn => by
    rw [shl8F, gu_pos ⟨ha, by show (0 : Int) ≤ (n : Int); omega, by show (n : Int) ≤ _; omega, by show blen (val a) ≤ _; omega⟩, Int.toNat_natCast]
  have hneg : subI .i64 0 b = -b := by rw [subI_i64 (by omega)]; omega
  rw [against_b0, hI, Option.bind_some, cond_dec, agn]
  by_cases c1 : c < 0
  · obtain ⟨n, hn⟩ := Int.eq_ofNat_of_zero_le (show 0 ≤ -c by omega)
    have e1 : subI .i64 0 c = (n : Int) := by rw [subI_i64 (by omega)]; omega
    have hm : mul8F (a, can (5 ^ n)) = some (can (val a * 5 ^ n)) := by
      rw [mul8F, gu_pos ⟨ha, V_can (five_Lim (by omega)), by show val a * val (can (5 ^ n)) < Lim; rw [val_can]; exact blen_Lim' (blen_mul_le hv (blen5 (n := n))) (by omega)⟩, val_can]
    have hbl := blen_mul_le hv (blen5 (n := n))
    have ec : c.toNat = 0 := by omega
    rw [if_pos c1, e1, Five5F_ok (by omega), Option.bind_some, hm, Option.bind_some, cond_dec, hn, Int.toNat_natCast, ec, Nat.pow_zero, Nat.one_mul]
    by_cases c2 : b ≥ 0
    · obtain ⟨m, rfl⟩ := Int.eq_ofNat_of_zero_le c2
      have em : (-(m : Int)).toNat = 0 := by omega
      try simp only [Int.ofNat_eq_natCast] at *
      rw [if_pos c2, shl8F_can hbl (by omega) (by omega), Option.bind_some, cmp8_1 (blen_mul_le hbl (blen2 (n := m))) (by omega), em, Nat.pow_zero, Int.toNat_natCast]
      rfl
    · obtain ⟨m, hm2⟩ := Int.eq_ofNat_of_zero_le (show 0 ≤ -b by omega)
      have em : b.toNat = 0 := by omega
      rw [if_neg c2, hneg, hm2, shl8F_1 (by omega), Option.bind_some, cmp8 hbl (blen2 (n := m)) (by omega) (by omega), em, Nat.pow_zero, Nat.mul_one, Int.toNat_natCast]
      rfl
  · obtain ⟨n, rfl⟩ := Int.eq_ofNat_of_zero_le (show 0 ≤ c by omega)
    have ec : (-(n : Int)).toNat = 0 := by omega
    try simp only [Int.ofNat_eq_natCast] at *
    have hp : powF 5 (n : Int) = (can (5 ^ n), 0) := by
      have := powF_small (X := 5) (n := (n : Int)) (by omega) (by rw [Int.toNat_natCast]; exact five_Lim (by omega))
      rw [Int.toNat_natCast] at this
      exact this
    rw [if_neg c1, if_neg (by omega), hp, cond_dec, ec, Nat.pow_zero, Nat.mul_one, Int.toNat_natCast]
    by_cases c2 : b ≥ 0
    · obtain ⟨m, rfl⟩ := Int.eq_ofNat_of_zero_le c2
      have em : (-(m : Int)).toNat = 0 := by omega
      try simp only [Int.ofNat_eq_natCast] at *
      rw [if_pos c2, hsa m (by omega), Option.bind_some, cmp8 (blen_mul_le hv (blen2 (n := m))) (blen5 (n := n)) (by omega) (by omega), em, Nat.pow_zero, Nat.mul_one, Int.toNat_natCast]
      rfl
    · obtain ⟨m, hm2⟩ := Int.eq_ofNat_of_zero_le (show 0 ≤ -b by omega)
      have em : b.toNat = 0 := by omega
      have hcmp : nCmpF (a, can (5 ^ n * 2 ^ m)) = some (sgn (val a) (5 ^ n * 2 ^ m)) := by
        rw [nCmpF_ok ha (V_can (blen_Lim' (blen_mul_le (blen5 (n := n)) (blen2 (n := m))) (by omega))), val_can]
      rw [if_neg c2, hneg, hm2, shl8F_can (blen5 (n := n)) (by omega) (by omega), Option.bind_some, hcmp, em, Nat.pow_zero, Nat.mul_one, Int.toNat_natCast]
      rfl
theorem TenF_ok {n : Nat} (h : n ≤ 2000) : TenF (n : Int) = some (can (10 ^ n), 0) := by rw [TenF, gu_pos ⟨by omega, by omega⟩, Int.toNat_natCast]
theorem ordered_law {a b : Int} {t : Bool} (h : orderedF (a, b) = some t) : ∃ k : Nat, ordered_b0 a b = some t := by
  obtain ⟨⟨ha0, ha1, hb0, hb1⟩, rfl⟩ := gu_eq.1 h
  dsimp only at *
  refine ⟨0, ?_⟩
  have na : subI .i64 0 a = -a := by rw [subI_i64 (by omega)]; omega
  have nb : subI .i64 0 b = -b := by rw [subI_i64 (by omega)]; omega
  rw [ordered_b0, na, nb, cond_dec]
  by_cases ca : a ≥ 0 <;> by_cases cb : b ≥ 0
  · obtain ⟨n, rfl⟩ := Int.eq_ofNat_of_zero_le ca
    obtain ⟨m, rfl⟩ := Int.eq_ofNat_of_zero_le cb
    try simp only [Int.ofNat_eq_natCast] at *
    have e1 : (-(n : Int)).toNat = 0 := by omega
    have e2 : (-(m : Int)).toNat = 0 := by omega
    rw [if_pos ca, shl8F_1 (by omega), Option.bind_some, cond_dec, if_pos cb, TenF_ok (by omega), Option.bind_some, mul8F_1 (blen10 (n := m)) (by omega), Option.bind_some, cmp8 (blen2 (n := n)) (blen10 (n := m)) (by omega) (by omega), Option.bind_some, sgn_le', e1, e2]
    simp
  · obtain ⟨n, rfl⟩ := Int.eq_ofNat_of_zero_le ca
    obtain ⟨m, hm⟩ := Int.eq_ofNat_of_zero_le (show 0 ≤ -b by omega)
    try simp only [Int.ofNat_eq_natCast] at *
    have e1 : (-(n : Int)).toNat = 0 := by omega
    have e2 : b.toNat = 0 := by omega
    rw [if_pos ca, shl8F_1 (by omega), Option.bind_some, cond_dec, if_neg cb, hm, TenF_ok (by omega), Option.bind_some, mul8F_can (blen2 (n := n)) (blen10 (n := m)) (by omega) (by omega), Option.bind_some, cmp8_1 (blen_mul_le (blen2 (n := n)) (blen10 (n := m))) (by omega), Option.bind_some, sgn_le', e1, e2]
    simp
  · obtain ⟨n, hn⟩ := Int.eq_ofNat_of_zero_le (show 0 ≤ -a by omega)
    obtain ⟨m, rfl⟩ := Int.eq_ofNat_of_zero_le cb
    try simp only [Int.ofNat_eq_natCast] at *
    have e1 : a.toNat = 0 := by omega
    have e2 : (-(m : Int)).toNat = 0 := by omega
    rw [if_neg ca, hn, shl8F_1 (by omega), Option.bind_some, cond_dec, if_pos cb, TenF_ok (by omega), Option.bind_some, mul8F_can (blen2 (n := n)) (blen10 (n := m)) (by omega) (by omega), Option.bind_some, cmp8_1' (blen_mul_le (blen2 (n := n)) (blen10 (n := m))) (by omega), Option.bind_some, sgn_le', e1, e2]
    simp
  · obtain ⟨n, hn⟩ := Int.eq_ofNat_of_zero_le (show 0 ≤ -a by omega)
    obtain ⟨m, hm⟩ := Int.eq_ofNat_of_zero_le (show 0 ≤ -b by omega)
    have e1 : a.toNat = 0 := by omega
    have e2 : b.toNat = 0 := by omega
    rw [if_neg ca, hn, shl8F_1 (by omega), Option.bind_some, cond_dec, if_neg cb, hm, TenF_ok (by omega), Option.bind_some, mul8F_1 (blen10 (n := m)) (by omega), Option.bind_some, cmp8 (blen10 (n := m)) (blen2 (n := n)) (by omega) (by omega), Option.bind_some, sgn_le', e1, e2]
    simp
theorem turned_law {a b : Int} {t : Bool} (h : turnedF (a, b) = some t) : ∃ k : Nat, turned_b0 a b = some t := by
  obtain ⟨⟨ha0, ha1, hb0, hb1⟩, rfl⟩ := gu_eq.1 h
  dsimp only at *
  refine ⟨0, ?_⟩
  have na : subI .i64 0 a = -a := by rw [subI_i64 (by omega)]; omega
  have nb : subI .i64 0 b = -b := by rw [subI_i64 (by omega)]; omega
  rw [turned_b0, na, nb, cond_dec]
  by_cases cb : b ≥ 0 <;> by_cases ca : a ≥ 0
  · obtain ⟨n, rfl⟩ := Int.eq_ofNat_of_zero_le cb
    obtain ⟨m, rfl⟩ := Int.eq_ofNat_of_zero_le ca
    try simp only [Int.ofNat_eq_natCast] at *
    have e1 : (-(n : Int)).toNat = 0 := by omega
    have e2 : (-(m : Int)).toNat = 0 := by omega
    rw [if_pos cb, shl8F_1 (by omega), Option.bind_some, cond_dec, if_pos ca, TenF_ok (by omega), Option.bind_some, mul8F_1 (blen10 (n := m)) (by omega), Option.bind_some, cmp8 (blen10 (n := m)) (blen2 (n := n)) (by omega) (by omega), Option.bind_some, sgn_le', e1, e2]
    simp
  · obtain ⟨n, rfl⟩ := Int.eq_ofNat_of_zero_le cb
    obtain ⟨m, hm⟩ := Int.eq_ofNat_of_zero_le (show 0 ≤ -a by omega)
    try simp only [Int.ofNat_eq_natCast] at *
    have e1 : (-(n : Int)).toNat = 0 := by omega
    have e2 : a.toNat = 0 := by omega
    rw [if_pos cb, shl8F_1 (by omega), Option.bind_some, cond_dec, if_neg ca, hm, TenF_ok (by omega), Option.bind_some, mul8F_can (blen2 (n := n)) (blen10 (n := m)) (by omega) (by omega), Option.bind_some, cmp8_1' (blen_mul_le (blen2 (n := n)) (blen10 (n := m))) (by omega), Option.bind_some, sgn_le', e1, e2]
    simp
  · obtain ⟨n, hn⟩ := Int.eq_ofNat_of_zero_le (show 0 ≤ -b by omega)
    obtain ⟨m, rfl⟩ := Int.eq_ofNat_of_zero_le ca
    try simp only [Int.ofNat_eq_natCast] at *
    have e1 : b.toNat = 0 := by omega
    have e2 : (-(m : Int)).toNat = 0 := by omega
    rw [if_neg cb, hn, shl8F_1 (by omega), Option.bind_some, cond_dec, if_pos ca, TenF_ok (by omega), Option.bind_some, mul8F_can (blen2 (n := n)) (blen10 (n := m)) (by omega) (by omega), Option.bind_some, cmp8_1 (blen_mul_le (blen2 (n := n)) (blen10 (n := m))) (by omega), Option.bind_some, sgn_le', e1, e2]
    simp
  · obtain ⟨n, hn⟩ := Int.eq_ofNat_of_zero_le (show 0 ≤ -b by omega)
    obtain ⟨m, hm⟩ := Int.eq_ofNat_of_zero_le (show 0 ≤ -a by omega)
    have e1 : b.toNat = 0 := by omega
    have e2 : a.toNat = 0 := by omega
    rw [if_neg cb, hn, shl8F_1 (by omega), Option.bind_some, cond_dec, if_neg ca, hm, TenF_ok (by omega), Option.bind_some, mul8F_1 (blen10 (n := m)) (by omega), Option.bind_some, cmp8 (blen2 (n := n)) (blen10 (n := m)) (by omega) (by omega), Option.bind_some, sgn_le', e1, e2]
    simp

/-! ### the laws -/
theorem PowerRises_law {a : Int} {t : Bool} (h : PowerRisesF a = some t) : ∃ k : Nat, PowerRises_b0 a = some t := by
  obtain ⟨ha, rfl⟩ := gu_eq.1 h
  refine ⟨0, ?_⟩
  rw [PowerRises_b0, aliveF_ok, Option.bind_some, Bool.not_true, cond_f]
  by_cases c1 : a < -348
  · have hn : ¬ inT a := fun h => by have := h.1; omega
    rw [pFiveF_out ha hn, Option.bind_some, cond_dec, if_pos c1, cond_dec, if_neg (by omega), in4F_ok ha, Option.bind_some, decide_eq_false hn]
    rfl
  · by_cases c2 : a > 346
    · by_cases c3 : a = 347
      · subst c3
        rw [pFiveF_in (by unfold inT; omega), Option.bind_some, cond_dec, if_neg c1, cond_dec, if_pos c2]
        rfl
      · have hn : ¬ inT a := fun h => by have := h.2; omega
        rw [pFiveF_out ha hn, Option.bind_some, cond_dec, if_neg c1, cond_dec, if_pos c2, cond_dec, if_neg c3, in4F_ok ha, Option.bind_some, decide_eq_false hn]
        rfl
    · have h0 : inT a := ⟨by omega, by omega⟩
      have h1 : inT (a + 1) := ⟨by omega, by omega⟩
      have F := fact h0
      have f0 := frm_I h0
      have f1 := frm_I h1
      have e1 : addI .i64 a 1 = a + 1 := addI_i64 (by omega)
      have e2 : subI .i64 (frm (a + 1)) (frm a) = frm (a + 1) - frm a := subI_i64 (by omega)
      have hw : pWholeF a = some (whl a, 0) := by rw [pWholeF, gu_pos ha, if_pos h0]
      rw [pFiveF_in h0, Option.bind_some, cond_dec, if_neg c1, cond_dec, if_neg c2, e1, pFiveF_in h1, Option.bind_some, hw]
      simp only [Option.bind_some, e2, decide_true, cond_t, F.wh]
      rw [cond_dec, cond_dec, cond_dec]
      have key : (if a ≥ 0 then some (decide ((decide (0 ≤ a) && decide (a ≤ 55)) = decide (a ≤ 55))) else some (decide ((decide (0 ≤ a) && decide (a ≤ 55)) = false))) = some true := by
        by_cases c : 0 ≤ a
        · rw [if_pos c, decide_eq_true c, Bool.true_and, decide_eq_true rfl]
        · rw [if_neg c, decide_eq_false c, Bool.false_and, decide_eq_true rfl]
      rcases F.st with h | h | h
      · omega
      · rw [if_pos h]
        exact key
      · rw [if_neg (by omega), if_pos h]
        exact key
theorem blen_mant {e : Int} (h : inT e) : blen (mant e) ≤ 128 ∧ blen (mant e + 1) ≤ 128 := by
  have := (fact h).hi
  constructor <;> rw [blen_le_iff] <;> simp <;> omega
theorem add1 {e : Int} (h : inT e) : nAddF (can (mant e), [1]) = some (can (mant e + 1), 0) := by
  have hM := mant_Lim h
  rw [nAddF_ok (V_can hM.1) V_1 (by rw [val_can, val_1]; exact hM.2), val_can, val_1]
theorem agnF {v : Nat} {x e : Int} (hv : blen v ≤ 1000) (h0 : -10000 ≤ x) (h1 : x ≤ 10000) (h2 : -1000 ≤ e) (h3 : e ≤ 1000) : againstF (can v, x, e) = some (sgn (ls v x e) (rs x e)) := by
  rw [againstF, gu_pos ⟨V_can (blen_Lim' hv (by omega)), by show blen (val (can v)) ≤ _; rw [val_can]; exact hv, h0, h1, h2, h3⟩, val_can]
  rfl
theorem split2 (a b : Int) : ∃ c, a.toNat + b.toNat = (a + b).toNat + c ∧ (-a).toNat + (-b).toNat = (-(a + b)).toNat + c := ⟨a.toNat + b.toNat - (a + b).toNat, by omega, by omega⟩
theorem pow2s {x a b s c : Nat} (h : a + b = s + c) : x ^ a * x ^ b = x ^ s * x ^ c := by rw [← Nat.pow_add, h, Nat.pow_add]
theorem prods (fa fb a b : Int) : ∃ K, 0 < K ∧ rs fa a * rs fb b = rs (fa + fb) (a + b) * K ∧ ∀ v w, ls v fa a * ls w fb b = ls (v * w) (fa + fb) (a + b) * K := by
  obtain ⟨c, h1, h2⟩ := split2 a b
  obtain ⟨d, h3, h4⟩ := split2 fa fb
  refine ⟨5 ^ c * 2 ^ d, Nat.mul_pos (Nat.pow_pos (by omega)) (Nat.pow_pos (by omega)), ?_, fun v w => ?_⟩
  · have p1 := pow2s (x := 5) h1
    have p4 := pow2s (x := 2) h4
    unfold rs
    calc 5 ^ a.toNat * 2 ^ (-fa).toNat * (5 ^ b.toNat * 2 ^ (-fb).toNat) = (5 ^ a.toNat * 5 ^ b.toNat) * (2 ^ (-fa).toNat * 2 ^ (-fb).toNat) := by ac_rfl
      _ = _ := by rw [p1, p4]; ac_rfl
  · have p2 := pow2s (x := 5) h2
    have p3 := pow2s (x := 2) h3
    unfold ls
    calc v * 5 ^ (-a).toNat * 2 ^ fa.toNat * (w * 5 ^ (-b).toNat * 2 ^ fb.toNat) = v * w * (5 ^ (-a).toNat * 5 ^ (-b).toNat) * (2 ^ fa.toNat * 2 ^ fb.toNat) := by ac_rfl
      _ = _ := by rw [p2, p3]; ac_rfl
theorem PowerProducts_law {a b : Int} {t : Bool} (h : PowerProductsF (a, b) = some t) : ∃ k : Nat, PowerProducts_b0 a b = some t := by
  obtain ⟨⟨ha, hb⟩, rfl⟩ := gu_eq.1 h
  dsimp only at *
  refine ⟨0, ?_⟩
  rw [PowerProducts_b0]
  simp only [aliveF_ok, Option.bind_some, Bool.not_true, cond_f, in4F_ok ha, in4F_ok hb]
  by_cases ca : inT a
  · by_cases cb : inT b
    · have a0 : -348 ≤ a := ca.1
      have a1 : a ≤ 347 := ca.2
      have b0 : -348 ≤ b := cb.1
      have b1 : b ≤ 347 := cb.2
      have e1 : addI .i64 a b = a + b := addI_i64 (by omega)
      rw [decide_eq_true ca, decide_eq_true cb, e1, in4F_ok (by unfold I64; omega)]
      simp only [Option.bind_some, Bool.not_true, cond_f]
      by_cases cc : inT (a + b)
      · have fa := frm_I ca
        have fb := frm_I cb
        have e2 : addI .i64 (frm a) (frm b) = frm a + frm b := addI_i64 (by omega)
        have A := fact ca
        have B := fact cb
        have bA := blen_mant ca
        have bB := blen_mant cb
        have m1 := mul8F_can bA.1 bB.1 (by omega) (by omega)
        have m2 := mul8F_can bA.2 bB.2 (by omega) (by omega)
        have g1 := agnF (v := mant a * mant b) (x := frm a + frm b) (e := a + b) (Nat.le_trans (blen_mul_le bA.1 bB.1) (by omega)) (by omega) (by omega) (by omega) (by omega)
        have g2 := agnF (v := (mant a + 1) * (mant b + 1)) (x := frm a + frm b) (e := a + b) (Nat.le_trans (blen_mul_le bA.2 bB.2) (by omega)) (by omega) (by omega) (by omega) (by omega)
        obtain ⟨K, hK, hr, hl⟩ := prods (frm a) (frm b) a b
        have r1 : ls (mant a * mant b) (frm a + frm b) (a + b) ≤ rs (frm a + frm b) (a + b) := by
          refine Nat.le_of_mul_le_mul_right ?_ hK
          rw [← hl, ← hr]
          exact Nat.mul_le_mul A.le B.le
        have r2 : rs (frm a + frm b) (a + b) < ls ((mant a + 1) * (mant b + 1)) (frm a + frm b) (a + b) := by
          refine Nat.lt_of_mul_lt_mul_right (a := K) ?_
          rw [← hl, ← hr]
          exact Nat.mul_lt_mul'' A.gt B.gt
        rw [decide_eq_true cc, pFiveF_in ca, pFiveF_in cb]
        simp only [Option.bind_some, Bool.not_true, cond_f, e2, add1 ca, add1 cb, ← mant_two ca, ← mant_two cb, m1, m2, g1, g2, sgn_gt r2, decide_eq_true (sgn_le.2 r1), cond_t]
        rfl
      · rw [decide_eq_false cc]
        rfl
    · rw [decide_eq_true ca, decide_eq_false cb]
      rfl
  · rw [decide_eq_false ca]
    rfl


theorem abv_u {e : Int} (h : inT e) : ∃ u : Nat, 170141183460469231731687303715884105728 ≤ u ∧ u < 340282366920938463463374607431768211456 ∧ rs (frm e) e ≤ ls u (frm e) e ∧ ls (u - 1) (frm e) e < rs (frm e) e ∧ abv e = (hiW u, loW u, frm e) := by
  have F := fact h
  have hp : 0 < 5 ^ (-e).toNat * 2 ^ (frm e).toNat := Nat.mul_pos (Nat.pow_pos (by omega)) (Nat.pow_pos (by omega))
  have h1 := F.lo
  have h2 := F.hi
  have h3 := F.le
  have h4 := F.gt
  have h5 := F.eq
  rw [abv_in h]
  cases hw : whl e
  · refine ⟨mant e + 1, by omega, by omega, Nat.le_of_lt h4, ?_, rfl⟩
    rw [Nat.add_sub_cancel]
    rw [hw] at h5
    refine Nat.lt_of_le_of_ne h3 (fun hh => ?_)
    exact absurd (h5.1 hh) (by simp)
  · have h6 := h5.2 hw
    refine ⟨mant e, by omega, by omega, Nat.le_of_eq h6.symm, ?_, rfl⟩
    rw [← h6]
    unfold ls
    rw [Nat.mul_assoc, Nat.mul_assoc]
    exact Nat.mul_lt_mul_of_pos_right (by omega) hp
theorem pWholeF_in {e : Int} (hi : I64 e) (h : inT e) : pWholeF e = some (whl e, 0) := by rw [pWholeF, gu_pos hi, if_pos h]
theorem pWholeF_out {e : Int} (hi : I64 e) (h : ¬ inT e) : pWholeF e = some (false, 80) := by rw [pWholeF, gu_pos hi, if_neg h]
theorem pAboveF_in {e : Int} (hi : I64 e) (h : inT e) : pAboveF e = some ((abv e).1, (abv e).2.1, (abv e).2.2, 0) := by rw [pAboveF, gu_pos hi, if_pos h]
theorem pAboveF_out {e : Int} (hi : I64 e) (h : ¬ inT e) : pAboveF e = some (0, 0, 0, 80) := by rw [pAboveF, gu_pos hi, if_neg h]
theorem PowerBounds_law {a : Int} {t : Bool} (h : PowerBoundsF a = some t) : ∃ k : Nat, PowerBounds_b0 a = some t := by
  obtain ⟨ha, rfl⟩ := gu_eq.1 h
  refine ⟨0, ?_⟩
  rw [PowerBounds_b0, aliveF_ok, Option.bind_some, Bool.not_true, cond_f]
  by_cases c : inT a
  · have F := fact c
    have h0 : -348 ≤ a := c.1
    have h1 : a ≤ 347 := c.2
    have hf := frm_I c
    have hb := blen_mant c
    have hlo := F.lo
    have hle := F.le
    have hgt := F.gt
    obtain ⟨u, u0, u1, u2, u3, hu⟩ := abv_u c
    have ub : blen u ≤ 128 := by rw [blen_le_iff]; simp; omega
    have ub1 : blen (u - 1) ≤ 128 := by rw [blen_le_iff]; simp; omega
    have g1 := agnF (v := mant a) (x := frm a) (e := a) (Nat.le_trans hb.1 (by omega)) (by omega) (by omega) (by omega) (by omega)
    have g2 := agnF (v := mant a + 1) (x := frm a) (e := a) (Nat.le_trans hb.2 (by omega)) (by omega) (by omega) (by omega) (by omega)
    have g3 := agnF (v := u) (x := frm a) (e := a) (Nat.le_trans ub (by omega)) (by omega) (by omega) (by omega) (by omega)
    have g4 := agnF (v := u - 1) (x := frm a) (e := a) (Nat.le_trans ub1 (by omega)) (by omega) (by omega) (by omega) (by omega)
    have hs : nSubF (can u, [1]) = some (can (u - 1), 0) := by
      rw [nSubF_ok (V_can (big_Lim u1)) V_1 (by rw [val_can, val_1]; omega) (by rw [val_can]; exact big_Lim u1), val_can, val_1]
    have w1 : ¬ (hiW (mant a) < 9223372036854775808) := by unfold hiW; omega
    have w2 : hiW u ≥ 9223372036854775808 := by unfold hiW; omega
    have s1 : ¬ (sgn (ls (mant a) (frm a) a) (rs (frm a) a) > 0) := by
      have := sgn_le.2 hle
      omega
    have s2 : decide (sgn (ls (mant a) (frm a) a) (rs (frm a) a) = 0) = whl a := by
      rw [Bool.eq_iff_iff, decide_eq_true_eq, ← F.eq]
      unfold sgn
      split
      · omega
      · split <;> omega
    have s3 : sgn (ls u (frm a) a) (rs (frm a) a) ≥ 0 := by
      unfold sgn
      rw [if_neg (by omega)]
      split <;> omega
    rw [pFiveF_in c, Option.bind_some, pWholeF_in ha c, Option.bind_some, pAboveF_in ha c, Option.bind_some, in4F_ok ha, Option.bind_some, decide_eq_true c, Bool.not_true, cond_f, hu]
    simp only [← mant_two c, ← can_two (v := u) (by omega) u1, add1 c, Option.bind_some, g1, g2, g3, g4, hs, decide_eq_true (rfl : (0 : Int) = 0), Bool.not_true, cond_f, decide_eq_false w1, decide_eq_false s1, s2, sgn_gt hgt, decide_eq_true w2, cond_t, decide_eq_true s3, sgn_lt u3]
    rfl
  · rw [pFiveF_out ha c, Option.bind_some, pWholeF_out ha c, Option.bind_some, pAboveF_out ha c, Option.bind_some, in4F_ok ha, Option.bind_some, decide_eq_false c]
    rfl

/-! ### powers of ten -/
theorem lg10_spec {v : Nat} (hv : v ≠ 0) : 10 ^ lg10 v ≤ v ∧ v < 10 ^ (lg10 v + 1) := by
  have h0 : (gcan 10 v).length ≠ 0 := fun h => hv ((gcan_nil_iff (by omega)).1 h)
  have h1 := gcan_len_iff (show 2 ≤ 10 by omega) (lg10 v) v
  have h2 := gcan_len_iff (show 2 ≤ 10 by omega) (lg10 v + 1) v
  unfold lg10 at *
  refine ⟨?_, h2.1 (by omega)⟩
  rcases Nat.lt_or_ge v (10 ^ ((gcan 10 v).length - 1)) with h | h
  · have := h1.2 h
    omega
  · exact h
theorem two_mod5 : ∀ n : Nat, 2 ^ n % 5 ≠ 0
  | 0 => by simp
  | n + 1 => by
    have := two_mod5 n
    rw [Nat.pow_succ]
    omega
theorem ten_ne_two {m n : Nat} (h : 10 ^ m = 2 ^ n) : n = 0 := by
  cases m with
  | zero =>
    rw [Nat.pow_zero] at h
    rcases Nat.eq_zero_or_pos n with h0 | h0
    · exact h0
    · have := Nat.pow_le_pow_right (show 0 < 2 by omega) h0
      omega
  | succ m =>
    exfalso
    apply two_mod5 n
    rw [← h, Nat.pow_succ]
    omega
/-- The power of ten below. -/
def l10 (e : Int) : Int := if 0 ≤ e then (lg10 (2 ^ e.toNat) : Int) else -(lg10 (2 ^ (-e).toNat) : Int) - 1
theorem l10_ok {e : Int} : ro2 e (l10 e) ≤ lo2 e (l10 e) ∧ lo2 e (l10 e + 1) < ro2 e (l10 e + 1) := by
  unfold ro2 lo2
  by_cases c : 0 ≤ e
  · obtain ⟨n, rfl⟩ := Int.eq_ofNat_of_zero_le c
    try simp only [Int.ofNat_eq_natCast] at *
    have h := lg10_spec (two_ne n)
    simp only [l10, if_pos c, Int.toNat_natCast]
    have e1 : (-(n : Int)).toNat = 0 := by omega
    have e2 : (-(lg10 (2 ^ n) : Int)).toNat = 0 := by omega
    have e3 : ((lg10 (2 ^ n) : Int) + 1).toNat = lg10 (2 ^ n) + 1 := by omega
    have e4 : (-((lg10 (2 ^ n) : Int) + 1)).toNat = 0 := by omega
    simp only [e1, e2, e3, e4, Nat.pow_zero, Nat.mul_one, Nat.one_mul]
    exact h
  · obtain ⟨n, hn⟩ := Int.eq_ofNat_of_zero_le (show 0 ≤ -e by omega)
    try simp only [Int.ofNat_eq_natCast] at *
    have h := lg10_spec (two_ne n)
    rw [l10, if_neg c, hn, Int.toNat_natCast]
    have hne : 10 ^ lg10 (2 ^ n) ≠ 2 ^ n := fun hh => by
      have := ten_ne_two hh
      omega
    generalize lg10 (2 ^ n) = L at *
    have e1 : e.toNat = 0 := by omega
    have e2 : (-(L : Int) - 1).toNat = 0 := by omega
    have e3 : (-(-(L : Int) - 1)).toNat = L + 1 := by omega
    have e4 : (-(L : Int) - 1 + 1).toNat = 0 := by omega
    have e5 : (-(-(L : Int) - 1 + 1)).toNat = L := by omega
    simp only [e1, e2, e3, e4, e5, Nat.pow_zero, Nat.mul_one, Nat.one_mul]
    exact ⟨Nat.le_of_lt h.2, Nat.lt_of_le_of_ne h.1 hne⟩
theorem l10_I {e : Int} (h0 : -1200 ≤ e) (h1 : e ≤ 1200) : -500 ≤ l10 e ∧ l10 e ≤ 500 := by
  have a1 := lg10_two (n := e.toNat)
  have a2 := lg10_two (n := (-e).toNat)
  unfold l10
  split <;> omega
theorem orderedF_ok {x e : Int} (h0 : -3000 ≤ x) (h1 : x ≤ 3000) (h2 : -1000 ≤ e) (h3 : e ≤ 1000) : orderedF (x, e) = some (decide (lo2 x e ≤ ro2 x e)) := gu_pos ⟨h0, h1, h2, h3⟩
theorem turnedF_ok {x e : Int} (h0 : -1000 ≤ x) (h1 : x ≤ 1000) (h2 : -1300 ≤ e) (h3 : e ≤ 1300) : turnedF (x, e) = some (decide (ro2 e x ≤ lo2 e x)) := gu_pos ⟨h0, h1, h2, h3⟩
theorem pLog10F_in {e : Int} (h0 : -1200 ≤ e) (h1 : e ≤ 1200) : pLog10F e = some (l10 e, 0) := by rw [pLog10F, gu_pos (by unfold I64; omega), if_pos ⟨h0, h1⟩, l10]
theorem pLog10F_out {e : Int} (hi : I64 e) (h : ¬ (-1200 ≤ e ∧ e ≤ 1200)) : pLog10F e = some (0, 80) := by rw [pLog10F, gu_pos hi, if_neg h]
theorem pLog2F_in {e : Int} (hi : I64 e) (h : inT e) : pLog2F e = some (frm e + 127 + e, 0) := by rw [pLog2F, gu_pos hi, if_pos h]
theorem pLog2F_out {e : Int} (hi : I64 e) (h : ¬ inT e) : pLog2F e = some (0, 80) := by rw [pLog2F, gu_pos hi, if_neg h]
theorem PowerTens_law {a : Int} {t : Bool} (h : PowerTensF a = some t) : ∃ k : Nat, PowerTens_b0 a = some t := by
  obtain ⟨ha, rfl⟩ := gu_eq.1 h
  refine ⟨0, ?_⟩
  rw [PowerTens_b0, aliveF_ok, Option.bind_some, Bool.not_true, cond_f]
  by_cases c : inT a
  · have F := fact c
    have h0 : -348 ≤ a := c.1
    have h1 : a ≤ 347 := c.2
    have hf := frm_I c
    have hl := l10_I (e := a) (by omega) (by omega)
    obtain ⟨t1, t2⟩ := l10_ok (e := a)
    have e1 : addI .i64 (frm a + 127 + a) 1 = frm a + 128 + a := by rw [addI_i64 (by omega)]; omega
    have e2 : addI .i64 (l10 a) 1 = l10 a + 1 := addI_i64 (by omega)
    have o1 := orderedF_ok (x := frm a + 127 + a) (e := a) (by omega) (by omega) (by omega) (by omega)
    have o2 := orderedF_ok (x := frm a + 128 + a) (e := a) (by omega) (by omega) (by omega) (by omega)
    have o3 := turnedF_ok (x := l10 a) (e := a) (by omega) (by omega) (by omega) (by omega)
    have o4 := turnedF_ok (x := l10 a + 1) (e := a) (by omega) (by omega) (by omega) (by omega)
    rw [decide_eq_true F.l2] at o1
    rw [decide_eq_false (Nat.not_le_of_lt F.l3)] at o2
    rw [decide_eq_true t1] at o3
    rw [decide_eq_false (Nat.not_le_of_lt t2)] at o4
    rw [pLog2F_in ha c, Option.bind_some, pLog10F_in (by omega) (by omega), Option.bind_some, in4F_ok ha, Option.bind_some, decide_eq_true c]
    simp only [decide_eq_true (rfl : (0 : Int) = 0), decide_eq_true (show a ≥ -1200 by omega), decide_eq_true (show a ≤ 1200 by omega), decide_true, decide_false, Bool.not_true, cond_f, cond_t, e1, e2, o1, o2, o3, o4, Option.bind_some, Bool.not_false]
  · by_cases c2 : -1200 ≤ a ∧ a ≤ 1200
    · have hl := l10_I (e := a) (by omega) (by omega)
      obtain ⟨t1, t2⟩ := l10_ok (e := a)
      have e2 : addI .i64 (l10 a) 1 = l10 a + 1 := addI_i64 (by omega)
      have o3 := turnedF_ok (x := l10 a) (e := a) (by omega) (by omega) (by omega) (by omega)
      have o4 := turnedF_ok (x := l10 a + 1) (e := a) (by omega) (by omega) (by omega) (by omega)
      rw [decide_eq_true t1] at o3
      rw [decide_eq_false (Nat.not_le_of_lt t2)] at o4
      rw [pLog2F_out ha c, Option.bind_some, pLog10F_in (by omega) (by omega), Option.bind_some, in4F_ok ha, Option.bind_some, decide_eq_false c]
      simp only [decide_eq_true (rfl : (0 : Int) = 0), decide_eq_false (show ¬ (80 : Int) = 0 by omega), decide_eq_true (show a ≥ -1200 by omega), decide_eq_true (show a ≤ 1200 by omega), decide_true, decide_false, Bool.not_true, cond_f, cond_t, e2, o3, o4, Option.bind_some, Bool.not_false]
    · rw [pLog2F_out ha c, Option.bind_some, pLog10F_out ha c2, Option.bind_some, in4F_ok ha, Option.bind_some, decide_eq_false c]
      by_cases c3 : a ≥ -1200
      · rw [decide_eq_true c3, decide_eq_false (show ¬ a ≤ 1200 by omega)]
        rfl
      · rw [decide_eq_false c3]
        rfl

/-! ### nothing changes -/
theorem pFiveF_any {e : Int} (h : I64 e) : ∃ x, pFiveF e = some x := ⟨_, gu_pos h⟩
theorem pAboveF_any {e : Int} (h : I64 e) : ∃ x, pAboveF e = some x := ⟨_, gu_pos h⟩
theorem pWholeF_any {e : Int} (h : I64 e) : ∃ x, pWholeF e = some x := ⟨_, gu_pos h⟩
theorem pLog2F_any {e : Int} (h : I64 e) : ∃ x, pLog2F e = some x := ⟨_, gu_pos h⟩
theorem pLog10F_any {e : Int} (h : I64 e) : ∃ x, pLog10F e = some x := ⟨_, gu_pos h⟩
theorem dself {α : Type} [DecidableEq α] (x : α) : decide (x = x) = true := decide_eq_true rfl
theorem PowerStays_loop {a : Int} {b : List Int} (hb : ∀ x ∈ b, I64 x) (hl : b.length ≤ 17592186043904) {f g : Int × Int × Int × Int} {l : Int × Int} (ef : pFiveF a = some f) (eg : pAboveF a = some g) (el : pLog2F a = some l) : ∀ (n i k : Nat), i + n = b.length → n + 1 ≤ k →
    PowerStays_L10 k a b f.1 f.2.1 f.2.2.1 f.2.2.2 g.1 g.2.1 g.2.2.1 g.2.2.2 l.1 l.2 (i : Int) = some true
  | n, i, 0, _, hk => by omega
  | 0, i, k + 1, hi, hk => by
    rw [PowerStays_L10, PowerStays_b10, cond_dec, if_neg (by omega), ef, Option.bind_some, eg, Option.bind_some, el, Option.bind_some, aliveF_ok, Option.bind_some]
    simp only [decide_true, cond_t]
  | n + 1, i, k + 1, hi, hk => by
    have hx : I64 (rdI b (i : Int)) := by
      rw [rdI_nat]
      exact hb _ (by rw [List.getD_eq_getElem?_getD, List.getElem?_eq_getElem (show i < b.length by omega)]; exact List.getElem_mem _)
    obtain ⟨x, h1⟩ := pFiveF_any hx
    obtain ⟨y, h2⟩ := pAboveF_any hx
    obtain ⟨z, h3⟩ := pLog10F_any hx
    rw [PowerStays_L10, PowerStays_b10, cond_dec, if_pos (by omega)]
    simp only [inR (show i < b.length by omega), cond_t, h1, h2, h3, Option.bind_some, decide_true, Bool.not_true, cond_f]
    rw [inc (by omega)]
    exact PowerStays_loop hb hl ef eg el n (i + 1) k (by omega) (by omega)
theorem PowerStays_law {a : Int} {b : List Int} {t : Bool} (h : PowerStaysF (a, b) = some t) : ∃ k : Nat, PowerStays_b0 (PowerStays_L10 k) a b = some t := by
  obtain ⟨⟨ha, hb, hl⟩, rfl⟩ := gu_eq.1 h
  dsimp only at *
  obtain ⟨f, ef⟩ := pFiveF_any ha
  obtain ⟨g, eg⟩ := pAboveF_any ha
  obtain ⟨l, el⟩ := pLog2F_any ha
  refine ⟨b.length + 1, ?_⟩
  rw [PowerStays_b0, ef, Option.bind_some, eg, Option.bind_some, el, Option.bind_some]
  exact PowerStays_loop hb hl ef eg el b.length 0 (b.length + 1) (by omega) (by omega)
theorem PowerFives_law {a : Int} {t : Bool} (h : PowerFivesF a = some t) : ∃ k : Nat, PowerFives_b0 a = some t := by
  obtain ⟨ha, rfl⟩ := gu_eq.1 h
  refine ⟨0, ?_⟩
  obtain ⟨x1, h1⟩ := pFiveF_any ha
  obtain ⟨x2, h2⟩ := pAboveF_any ha
  obtain ⟨x3, h3⟩ := pWholeF_any ha
  obtain ⟨x4, h4⟩ := pLog2F_any ha
  obtain ⟨x5, h5⟩ := pLog10F_any ha
  rw [PowerFives_b0]
  simp only [h1, h2, h3, h4, h5, Option.bind_some, decide_true, Bool.not_true, cond_f, cond_t, aliveF_ok]
theorem against_ok : CtrOk Go.Proofs.Try.prog 97 (mkF [.sl (.int .u64), .int .i64, .int .i64] [.int .i64] againstF) := by
  refine mkF_ok (c := bodyOf Go.Proofs.Try.f97) (tab := S.tab) (cts := [(139, mkF [.int .i64] [.sl (.int .u64), .int .i64] Five5F), (98, mkF [.sl (.int .u64), .sl (.int .u64)] [.sl (.int .u64)] mul8F), (33, mkF [.sl (.int .u64), .sl (.int .u64)] [.int .i64] nCmpF), (140, mkF [.sl (.int .u64), .int .i64] [.sl (.int .u64)] shl8F)]) (res := [6]) tab_ok hm ⟨Five_ok, mul8_ok, nCmp_ok, shl8_ok, trivial⟩ Go.Proofs.Try.func97 (by kernel_rfl) (by kernel_rfl) (by kernel_rfl) (by kernel_rfl) (by kernel_rfl) ?_
  rintro ⟨a, b, c⟩ t h
  obtain ⟨k, hk⟩ := against_law h
  exact ⟨against_h, 3000, k, (against_ev k a b c).trans hk⟩

theorem ordered_ok : CtrOk Go.Proofs.Try.prog 102 (mkF [.int .i64, .int .i64] [.bool] orderedF) := by
  refine mkF_ok (c := bodyOf Go.Proofs.Try.f102) (tab := S.tab) (cts := [(140, mkF [.sl (.int .u64), .int .i64] [.sl (.int .u64)] shl8F), (142, mkF [.int .i64] [.sl (.int .u64), .int .i64] TenF), (98, mkF [.sl (.int .u64), .sl (.int .u64)] [.sl (.int .u64)] mul8F), (33, mkF [.sl (.int .u64), .sl (.int .u64)] [.int .i64] nCmpF)]) (res := [4]) tab_ok hm ⟨shl8_ok, Ten_ok, mul8_ok, nCmp_ok, trivial⟩ Go.Proofs.Try.func102 (by kernel_rfl) (by kernel_rfl) (by kernel_rfl) (by kernel_rfl) (by kernel_rfl) ?_
  rintro ⟨a, b⟩ t h
  obtain ⟨k, hk⟩ := ordered_law h
  exact ⟨ordered_h, 3000, k, (ordered_ev k a b).trans hk⟩

theorem turned_ok : CtrOk Go.Proofs.Try.prog 103 (mkF [.int .i64, .int .i64] [.bool] turnedF) := by
  refine mkF_ok (c := bodyOf Go.Proofs.Try.f103) (tab := S.tab) (cts := [(140, mkF [.sl (.int .u64), .int .i64] [.sl (.int .u64)] shl8F), (142, mkF [.int .i64] [.sl (.int .u64), .int .i64] TenF), (98, mkF [.sl (.int .u64), .sl (.int .u64)] [.sl (.int .u64)] mul8F), (33, mkF [.sl (.int .u64), .sl (.int .u64)] [.int .i64] nCmpF)]) (res := [4]) tab_ok hm ⟨shl8_ok, Ten_ok, mul8_ok, nCmp_ok, trivial⟩ Go.Proofs.Try.func103 (by kernel_rfl) (by kernel_rfl) (by kernel_rfl) (by kernel_rfl) (by kernel_rfl) ?_
  rintro ⟨a, b⟩ t h
  obtain ⟨k, hk⟩ := turned_law h
  exact ⟨turned_h, 3000, k, (turned_ev k a b).trans hk⟩

theorem PowerRises_ok : CtrOk Go.Proofs.Try.prog 21 (mkF [.int .i64] [.bool] PowerRisesF) := by
  refine mkF_ok (c := bodyOf Go.Proofs.Try.f21) (tab := S.tab) (cts := [(93, mkF [] [.bool] aliveF), (94, mkF [.int .i64] [.int .u64, .int .u64, .int .i64, .int .i64] pFiveF), (95, mkF [.int .i64] [.bool] in4F), (96, mkF [.int .i64] [.bool, .int .i64] pWholeF)]) (res := [2]) tab_ok hm ⟨alive8_ok, pFive_ok, in8_ok, pWhole_ok, trivial⟩ Go.Proofs.Try.func21 (by kernel_rfl) (by kernel_rfl) (by kernel_rfl) (by kernel_rfl) (by kernel_rfl) ?_
  rintro a t h
  obtain ⟨k, hk⟩ := PowerRises_law h
  exact ⟨PowerRises_h, 3000, k, (PowerRises_ev k a).trans hk⟩

theorem PowerProducts_ok : CtrOk Go.Proofs.Try.prog 22 (mkF [.int .i64, .int .i64] [.bool] PowerProductsF) := by
  refine mkF_ok (c := bodyOf Go.Proofs.Try.f22) (tab := S.tab) (cts := [(93, mkF [] [.bool] aliveF), (95, mkF [.int .i64] [.bool] in4F), (94, mkF [.int .i64] [.int .u64, .int .u64, .int .i64, .int .i64] pFiveF), (40, mkF [.sl (.int .u64), .sl (.int .u64)] [.sl (.int .u64), .int .i64] nAddF), (98, mkF [.sl (.int .u64), .sl (.int .u64)] [.sl (.int .u64)] mul8F), (97, mkF [.sl (.int .u64), .int .i64, .int .i64] [.int .i64] againstF)]) (res := [4]) tab_ok hm ⟨alive8_ok, in8_ok, pFive_ok, nAdd_ok, mul8_ok, against_ok, trivial⟩ Go.Proofs.Try.func22 (by kernel_rfl) (by kernel_rfl) (by kernel_rfl) (by kernel_rfl) (by kernel_rfl) ?_
  rintro ⟨a, b⟩ t h
  obtain ⟨k, hk⟩ := PowerProducts_law h
  exact ⟨PowerProducts_h, 3000, k, (PowerProducts_ev k a b).trans hk⟩

theorem PowerBounds_ok : CtrOk Go.Proofs.Try.prog 23 (mkF [.int .i64] [.bool] PowerBoundsF) := by
  refine mkF_ok (c := bodyOf Go.Proofs.Try.f23) (tab := S.tab) (cts := [(93, mkF [] [.bool] aliveF), (94, mkF [.int .i64] [.int .u64, .int .u64, .int .i64, .int .i64] pFiveF), (96, mkF [.int .i64] [.bool, .int .i64] pWholeF), (99, mkF [.int .i64] [.int .u64, .int .u64, .int .i64, .int .i64] pAboveF), (95, mkF [.int .i64] [.bool] in4F), (40, mkF [.sl (.int .u64), .sl (.int .u64)] [.sl (.int .u64), .int .i64] nAddF), (97, mkF [.sl (.int .u64), .int .i64, .int .i64] [.int .i64] againstF), (30, mkF [.sl (.int .u64), .sl (.int .u64)] [.sl (.int .u64), .int .i64] nSubF)]) (res := [2]) tab_ok hm ⟨alive8_ok, pFive_ok, pWhole_ok, pAbove_ok, in8_ok, nAdd_ok, against_ok, nSub_ok, trivial⟩ Go.Proofs.Try.func23 (by kernel_rfl) (by kernel_rfl) (by kernel_rfl) (by kernel_rfl) (by kernel_rfl) ?_
  rintro a t h
  obtain ⟨k, hk⟩ := PowerBounds_law h
  exact ⟨PowerBounds_h, 3000, k, (PowerBounds_ev k a).trans hk⟩

theorem PowerTens_ok : CtrOk Go.Proofs.Try.prog 24 (mkF [.int .i64] [.bool] PowerTensF) := by
  refine mkF_ok (c := bodyOf Go.Proofs.Try.f24) (tab := S.tab) (cts := [(93, mkF [] [.bool] aliveF), (100, mkF [.int .i64] [.int .i64, .int .i64] pLog2F), (101, mkF [.int .i64] [.int .i64, .int .i64] pLog10F), (95, mkF [.int .i64] [.bool] in4F), (102, mkF [.int .i64, .int .i64] [.bool] orderedF), (103, mkF [.int .i64, .int .i64] [.bool] turnedF)]) (res := [2]) tab_ok hm ⟨alive8_ok, pLog2_ok, pLog10_ok, in8_ok, ordered_ok, turned_ok, trivial⟩ Go.Proofs.Try.func24 (by kernel_rfl) (by kernel_rfl) (by kernel_rfl) (by kernel_rfl) (by kernel_rfl) ?_
  rintro a t h
  obtain ⟨k, hk⟩ := PowerTens_law h
  exact ⟨PowerTens_h, 3000, k, (PowerTens_ev k a).trans hk⟩

theorem PowerStays_ok : CtrOk Go.Proofs.Try.prog 25 (mkF [.int .i64, .sl (.int .i64)] [.bool] PowerStaysF) := by
  refine mkF_ok (c := bodyOf Go.Proofs.Try.f25) (tab := S.tab) (cts := [(94, mkF [.int .i64] [.int .u64, .int .u64, .int .i64, .int .i64] pFiveF), (99, mkF [.int .i64] [.int .u64, .int .u64, .int .i64, .int .i64] pAboveF), (100, mkF [.int .i64] [.int .i64, .int .i64] pLog2F), (101, mkF [.int .i64] [.int .i64, .int .i64] pLog10F), (93, mkF [] [.bool] aliveF)]) (res := [4]) tab_ok hm ⟨pFive_ok, pAbove_ok, pLog2_ok, pLog10_ok, alive8_ok, trivial⟩ Go.Proofs.Try.func25 (by kernel_rfl) (by kernel_rfl) (by kernel_rfl) (by kernel_rfl) (by kernel_rfl) ?_
  rintro ⟨a, b⟩ t h
  obtain ⟨k, hk⟩ := PowerStays_law h
  exact ⟨PowerStays_h, 3000, k, (PowerStays_ev k a b).trans hk⟩

theorem PowerFives_ok : CtrOk Go.Proofs.Try.prog 26 (mkF [.int .i64] [.bool] PowerFivesF) := by
  refine mkF_ok (c := bodyOf Go.Proofs.Try.f26) (tab := S.tab) (cts := [(100, mkF [.int .i64] [.int .i64, .int .i64] pLog2F), (104, mkF [.int .i64] [.int .i64, .int .i64] pLog2F), (101, mkF [.int .i64] [.int .i64, .int .i64] pLog10F), (105, mkF [.int .i64] [.int .i64, .int .i64] pLog10F), (94, mkF [.int .i64] [.int .u64, .int .u64, .int .i64, .int .i64] pFiveF), (106, mkF [.int .i64] [.int .u64, .int .u64, .int .i64, .int .i64] pFiveF), (96, mkF [.int .i64] [.bool, .int .i64] pWholeF), (107, mkF [.int .i64] [.bool, .int .i64] pWholeF), (99, mkF [.int .i64] [.int .u64, .int .u64, .int .i64, .int .i64] pAboveF), (108, mkF [.int .i64] [.int .u64, .int .u64, .int .i64, .int .i64] pAboveF), (93, mkF [] [.bool] aliveF)]) (res := [2]) tab_ok hm ⟨pLog2_ok, rLog2_ok, pLog10_ok, rLog10_ok, pFive_ok, rFive_ok, pWhole_ok, rWhole_ok, pAbove_ok, rAbove_ok, alive8_ok, trivial⟩ Go.Proofs.Try.func26 (by kernel_rfl) (by kernel_rfl) (by kernel_rfl) (by kernel_rfl) (by kernel_rfl) ?_
  rintro a t h
  obtain ⟨k, hk⟩ := PowerFives_law h
  exact ⟨PowerFives_h, 3000, k, (PowerFives_ev k a).trans hk⟩

end Go.RX.S
