/- Division of two words by one. -/
import Derived.Test.YtciapojlnhiggaaGreatZWa
import Derived.Test.YtciapojlnhiggaaGreatZTe
set_option linter.unusedVariables false
set_option linter.unusedSimpArgs false
namespace Go.RX.S
open Go Go.RX
set_option maxRecDepth 20000
theorem divI_u64 {a b : Nat} (ha : a < 18446744073709551616) : divI .u64 (a : Int) (b : Int) = ((a / b : Nat) : Int) := by
  have h : a / b < 18446744073709551616 := Nat.lt_of_le_of_lt (Nat.div_le_self _ _) ha
  have h2 : (a : Int).tdiv (b : Int) = ((a / b : Nat) : Int) := (Int.ofNat_tdiv a b).symm
  rw [divI, h2]
  generalize a / b = q at *
  exact cvI_u64 (by omega)
theorem remI_nat {a b : Nat} : remI (a : Int) (b : Int) = ((a % b : Nat) : Int) := by
  rw [remI]
  exact (Int.ofNat_tmod a b).symm
/-- What is found: the digit, or one too great is made less. -/
theorem digit_eq {R Y q : Nat} (h1 : R / Y ≤ q) (h2 : q * Y ≤ R) (hY : 0 < Y) : q = R / Y := Nat.le_antisymm ((Nat.le_div_iff_mul_le hY).2 h2) h1
theorem digit_less {R Y q : Nat} (h1 : R / Y ≤ q) (h2 : R < q * Y) (hY : 0 < Y) : R / Y ≤ q - 1 := by
  have := (Nat.div_lt_iff_lt_mul hY).2 h2
  omega
theorem sub_step {R Y q r h : Nat} (hR : R = r * 4294967296 + h) (hr : r < 18446744073709551616) (hh : h < 4294967296) (hq : q = R / Y) (hY0 : 0 < Y) (hY : Y < 18446744073709551616) :
    subI .u64 (addI .u64 (shlI .u64 (r : Int) 32) (h : Int)) (mulI .u64 (q : Int) (Y : Int)) = ((R % Y : Nat) : Int) := by
  have h1 := shlI_u64 r 32
  rw [show ((32 : Nat) : Int) = 32 from rfl, show (2 : Nat) ^ 32 = 4294967296 from rfl] at h1
  rw [h1, mulI_u64, addI_u64, subI_u64, ← Int.natCast_mul]
  have h2 := Nat.div_add_mod R Y
  have h3 := Nat.mod_lt R hY0
  rw [← hq, Nat.mul_comm] at h2
  generalize q * Y = p at *
  generalize R % Y = m at *
  subst hR
  omega
theorem mul_parts {Y v1 v0 q : Nat} (hY : Y = v1 * 4294967296 + v0) : q * Y = 4294967296 * (q * v1) + q * v0 := by
  rw [hY, Nat.mul_add, Nat.mul_comm v1, Nat.mul_left_comm]
theorem mul_le_of {Y v1 v0 q rh r h : Nat} (hY : Y = v1 * 4294967296 + v0) (e1 : r = q * v1 + rh) (e2 : q * v0 ≤ rh * 4294967296 + h) : q * Y ≤ r * 4294967296 + h := by
  rw [mul_parts hY, e1]
  clear hY e1
  obtain ⟨A, hA⟩ : ∃ A, q * v1 = A := ⟨_, rfl⟩
  obtain ⟨B, hB⟩ : ∃ B, q * v0 = B := ⟨_, rfl⟩
  rw [hB] at e2
  rw [hA, hB, Nat.mul_comm (A + rh), Nat.mul_add]
  rw [Nat.mul_comm rh] at e2
  clear hA hB
  omega
theorem mul_gt_of {Y v1 v0 q rh r h : Nat} (hY : Y = v1 * 4294967296 + v0) (e1 : r = q * v1 + rh) (e2 : rh * 4294967296 + h < q * v0) : r * 4294967296 + h < q * Y := by
  rw [mul_parts hY, e1]
  clear hY e1
  obtain ⟨A, hA⟩ : ∃ A, q * v1 = A := ⟨_, rfl⟩
  obtain ⟨B, hB⟩ : ∃ B, q * v0 = B := ⟨_, rfl⟩
  rw [hB] at e2
  rw [hA, hB, Nat.mul_comm (A + rh), Nat.mul_add]
  rw [Nat.mul_comm rh] at e2
  clear hA hB
  omega
structure DivIn (Y v1 v0 r h : Nat) : Prop where
  hy : Y = v1 * 4294967296 + v0
  hv1 : 2147483648 ≤ v1
  hv1' : v1 < 4294967296
  hv0 : v0 < 4294967296
  hr : r < Y
  hh : h < 4294967296
theorem wDiv_round {Y v1 v0 r h : Nat} (D : DivIn Y v1 v0 r h) {L22 : Int → Int → Int → Int → Int → List Int → Option (Int × Int × Int)} {s : Int} {q0 : Nat} (hq0 : q0 < 4294967296) {i j : Nat} (hi : i < 2) (hs : List Int) (hlen : hs.length = 2) (hhi : hs.getD i 0 = (h : Int)) {res : Option (Int × Int × Int)} (hj : j < 2)
    (hnext : L22 (Y : Int) s (((r * 4294967296 + h) % Y : Nat) : Int) ((q0 * 4294967296 + (r * 4294967296 + h) / Y : Nat) : Int) ((j + 1 : Nat) : Int) hs = res) :
    ∀ (n : Nat) (L30 : Int → Int → Int → Int → Int → Int → Int → Int → List Int → Option (Int × Int × Int)) (q rh : Nat),
      (∀ m, m < n → ∀ q rh : Nat, (r * 4294967296 + h) / Y ≤ q → q ≤ 4294967297 → r = q * v1 + rh → rh < 4294967296 → 4294967296 ≤ rh + m * v1 → L30 (Y : Int) s (r : Int) (q0 : Int) (i : Int) (q : Int) (rh : Int) (j : Int) hs = res) →
      (r * 4294967296 + h) / Y ≤ q → q ≤ 4294967297 → r = q * v1 + rh → rh < 4294967296 → 4294967296 ≤ rh + n * v1 →
      wDiv_b30 L22 L30 (Y : Int) s (r : Int) (q0 : Int) (i : Int) (q : Int) (rh : Int) (j : Int) hs = res := by
  obtain ⟨hY, hv1, hv1', hv0, hr, hh⟩ := D
  intro n L30 q rh ih hge hle hrq hrh hn
  have hY0 : 0 < Y := by omega
  have hYu : Y < 18446744073709551616 := by omega
  have eY1 : Y / 4294967296 = v1 := by omega
  have eY0 : Y % 4294967296 = v0 := by omega
  have hdlt : (r * 4294967296 + h) / Y < 4294967296 := by
    rw [Nat.div_lt_iff_lt_mul hY0]
    have : (r + 1) * 4294967296 ≤ Y * 4294967296 := Nat.mul_le_mul_right _ hr
    omega
  have hR : ∀ q' rh', r = q' * v1 + rh' → q' * v0 ≤ rh' * 4294967296 + h → q' * Y ≤ r * 4294967296 + h := fun q' rh' e1 e2 => mul_le_of hY e1 e2
  have hR2 : ∀ q' rh', r = q' * v1 + rh' → rh' * 4294967296 + h < q' * v0 → r * 4294967296 + h < q' * Y := fun q' rh' e1 e2 => mul_gt_of hY e1 e2
  -- the way out
  have hout : ∀ q' : Nat, q' = (r * 4294967296 + h) / Y → (bif bif inRange (i : Int) 2 then decide (hs.length = 2) else false then
        L22 (Y : Int) s (subI .u64 (addI .u64 (shlI .u64 (r : Int) 32) (rdN hs (Int.toNat (i : Int)))) (mulI .u64 (q' : Int) (Y : Int))) (orI .u64 (shlI .u64 (q0 : Int) 32) (q' : Int)) (addI .i64 (j : Int) 1) hs
      else none) = res := by
    intro q' hq'
    rw [inR hi, cond_t, decide_eq_true hlen, cond_t, Int.toNat_natCast, show rdN hs i = (h : Int) from hhi, sub_step rfl (by omega) hh hq' hY0 hYu, glue hq0 (by omega), inc (by omega), hq']
    exact hnext
  -- one less
  have hless : (r * 4294967296 + h) / Y ≤ q - 1 → 0 < q → (bif decide (addI .u64 (rh : Int) (shrI .u64 (Y : Int) 32) > (4294967295 : Int)) then
      bif bif inRange (i : Int) 2 then decide (hs.length = 2) else false then
        L22 (Y : Int) s (subI .u64 (addI .u64 (shlI .u64 (r : Int) 32) (rdN hs (Int.toNat (i : Int)))) (mulI .u64 (subI .u64 (q : Int) 1) (Y : Int))) (orI .u64 (shlI .u64 (q0 : Int) 32) (subI .u64 (q : Int) 1)) (addI .i64 (j : Int) 1) hs
      else none
    else L30 (Y : Int) s (r : Int) (q0 : Int) (i : Int) (subI .u64 (q : Int) 1) (addI .u64 (rh : Int) (shrI .u64 (Y : Int) 32)) (j : Int) hs) = res := by
    intro hq1 hq
    have e1 : subI .u64 (q : Int) 1 = ((q - 1 : Nat) : Int) := by
      rw [subI_u64]
      omega
    have e2 : addI .u64 (rh : Int) (shrI .u64 (Y : Int) 32) = ((rh + v1 : Nat) : Int) := by
      rw [hi32 hYu, eY1, addI_u64]
      omega
    have e3 : r = (q - 1) * v1 + (rh + v1) := by
      obtain ⟨p, rfl⟩ : ∃ p, q = p + 1 := ⟨q - 1, by omega⟩
      rw [Nat.add_sub_cancel]
      rw [Nat.succ_mul] at hrq
      omega
    rw [e1, e2, cond_dec]
    by_cases c : 4294967296 ≤ rh + v1
    · rw [if_pos (by omega)]
      refine hout (q - 1) (digit_eq hq1 (hR _ _ e3 ?_) hY0)
      have h1 : (q - 1) * v0 ≤ 4294967296 * v0 := Nat.mul_le_mul_right _ (by omega)
      omega
    · rw [if_neg (by omega)]
      obtain ⟨m, rfl⟩ : ∃ m, n = m + 1 := ⟨n - 1, by
        rcases n with _ | n
        · omega
        · omega⟩
      refine ih m (by omega) _ _ hq1 (by omega) e3 (by omega) ?_
      rw [Nat.succ_mul] at hn
      omega
  rw [wDiv_b30, cond_dec]
  by_cases c : (q : Int) > 4294967295
  · rw [if_pos c]
    refine hless (by omega) (by omega)
  · rw [if_neg c]
    have hql : q < 4294967296 := by omega
    have e4 : mulI .u64 (q : Int) (andI .u64 (Y : Int) 4294967295) = ((q * v0 : Nat) : Int) := by
      rw [lo32 hYu, eY0, mulI_u64, ← Int.natCast_mul]
      have : q * v0 ≤ 4294967295 * 4294967295 := Nat.mul_le_mul (by omega) (by omega)
      omega
    have e5 : orI .u64 (shlI .u64 (rh : Int) 32) (rdN hs (Int.toNat (i : Int))) = ((rh * 4294967296 + h : Nat) : Int) := by
      rw [Int.toNat_natCast, show rdN hs i = (h : Int) from hhi]
      exact glue hrh hh
    have hin : (bif inRange (i : Int) 2 then decide (hs.length = 2) else false) = true := by
      rw [inR hi, cond_t, decide_eq_true hlen]
    rw [e4, e5]
    by_cases c2 : rh * 4294967296 + h < q * v0
    · have := hless (digit_less hge (hR2 _ _ hrq c2) hY0) (by
        rcases Nat.eq_zero_or_pos q with h0 | h0
        · rw [h0, Nat.zero_mul] at c2; omega
        · exact h0)
      rw [hin] at this ⊢
      rw [cond_t, cond_dec, if_pos (by omega)]
      exact this
    · have := hout q (digit_eq hge (hR _ _ hrq (by omega)) hY0)
      rw [hin] at this ⊢
      rw [cond_t, cond_dec, if_neg (by omega)]
      exact this
theorem wDiv_L30_ok {Y v1 v0 r h : Nat} (D : DivIn Y v1 v0 r h) {s : Int} {q0 : Nat} (hq0 : q0 < 4294967296) {i j : Nat} (hi : i < 2) (hs : List Int) (hlen : hs.length = 2) (hhi : hs.getD i 0 = (h : Int)) {res : Option (Int × Int × Int)} (hj : j < 2) (K : Nat)
    (hnext : ∀ k, K ≤ k → wDiv_L22 k (Y : Int) s (((r * 4294967296 + h) % Y : Nat) : Int) ((q0 * 4294967296 + (r * 4294967296 + h) / Y : Nat) : Int) ((j + 1 : Nat) : Int) hs = res) :
    ∀ (n k : Nat), K + n + 1 ≤ k → ∀ q rh : Nat, (r * 4294967296 + h) / Y ≤ q → q ≤ 4294967297 → r = q * v1 + rh → rh < 4294967296 → 4294967296 ≤ rh + n * v1 →
      wDiv_L30 k (Y : Int) s (r : Int) (q0 : Int) (i : Int) (q : Int) (rh : Int) (j : Int) hs = res := by
  intro n
  induction n using Nat.strongRecOn with
  | _ n ih =>
    intro k hk q rh h1 h2 h3 h4 h5
    obtain ⟨k, rfl⟩ : ∃ m, k = m + 1 := ⟨k - 1, by omega⟩
    rw [wDiv_L30]
    exact wDiv_round D hq0 hi hs hlen hhi hj (hnext k (by omega)) n _ q rh (fun m hm q rh a b c d e => ih m hm k (by omega) q rh a b c d e) h1 h2 h3 h4 h5
theorem wDiv_L22_ok {Y v1 v0 r h : Nat} (D : DivIn Y v1 v0 r h) {s : Int} {q0 : Nat} (hq0 : q0 < 4294967296) {j : Nat} (hs : List Int) (hlen : hs.length = 2) (hhi : hs.getD j 0 = (h : Int)) {res : Option (Int × Int × Int)} (hj : j < 2) (K : Nat)
    (hnext : ∀ k, K ≤ k → wDiv_L22 k (Y : Int) s (((r * 4294967296 + h) % Y : Nat) : Int) ((q0 * 4294967296 + (r * 4294967296 + h) / Y : Nat) : Int) ((j + 1 : Nat) : Int) hs = res) :
    ∀ (k : Nat), K + 4 ≤ k → wDiv_L22 k (Y : Int) s (r : Int) (q0 : Int) (j : Int) hs = res := by
  intro k hk
  have D' := D
  obtain ⟨hY, hv1, hv1', hv0, hr, hh⟩ := D
  obtain ⟨k, rfl⟩ : ∃ m, k = m + 1 := ⟨k - 1, by omega⟩
  have hYu : Y < 18446744073709551616 := by omega
  have eY1 : Y / 4294967296 = v1 := by omega
  have e1 : shrI .u64 (Y : Int) 32 = (v1 : Int) := by rw [hi32 hYu, eY1]
  have e0 : (!decide ((v1 : Int) = 0)) = true := by
    rw [decide_eq_false (by omega)]
    rfl
  rw [wDiv_L22, wDiv_b22, cond_dec, if_pos (by omega), e1, e0, cond_t, cond_t, divI_u64 (by omega), remI_nat]
  have hdm := Nat.div_add_mod r v1
  have hml := Nat.mod_lt r (show 0 < v1 by omega)
  have hY0 : 0 < Y := by omega
  refine wDiv_L30_ok D' hq0 hj hs hlen hhi hj K hnext 2 k (by omega) _ _ ?_ ?_ (by rw [Nat.mul_comm]; exact hdm.symm) (by omega) (by omega)
  · -- not too small
    apply Nat.le_of_lt_succ
    rw [Nat.div_lt_iff_lt_mul hY0]
    have h2 : (r / v1 + 1) * Y = (r / v1 + 1) * v1 * 4294967296 + (r / v1 + 1) * v0 := by rw [hY, Nat.mul_add, Nat.mul_assoc]
    have h3 : (r / v1 + 1) * v1 = v1 * (r / v1) + v1 := by rw [Nat.succ_mul, Nat.mul_comm]
    rw [show r / v1 + 1 = (r / v1).succ from rfl] at h2 h3
    rw [h2, h3]
    generalize v1 * (r / v1) = p at *
    omega
  · apply Nat.le_of_lt_succ
    rw [Nat.div_lt_iff_lt_mul (by omega)]
    have : (4294967297 + 1) * v1 = 4294967296 * v1 + 2 * v1 := by omega
    omega
theorem wDiv_law {a b c : Int} {t : Int × Int × Int} (h : wDivF (a, b, c) = some t) : ∃ k : Nat, wDiv_b0 (wDiv_L22 k) (wDiv_L30 k) a b c = some t := by
  obtain ⟨⟨ha, hb, hc, hac⟩, rfl⟩ := gu_eq.1 h
  dsimp only at *
  obtain ⟨a, rfl, hau⟩ := ha.nat
  obtain ⟨b, rfl, hbu⟩ := hb.nat
  obtain ⟨c, rfl, hcu⟩ := hc.nat
  have hac : a < c := by omega
  refine ⟨9, ?_⟩
  have hlen : wLenF (c : Int) = some ((blen c : Nat) : Int) := by rw [wLenF, gu_pos (Wd.of hcu), Int.toNat_natCast]
  have hbl : blen c ≤ 64 := (blen_le_iff 64 c).2 hcu
  have hbl0 : 0 < blen c := blen_pos (by omega)
  obtain ⟨s, hs⟩ : ∃ s, s = 64 - blen c := ⟨_, rfl⟩
  have es : subI .i64 (64 : Int) ((blen c : Nat) : Int) = (s : Int) := by rw [subI_i64 (by omega)]; omega
  have es2 : subI .i64 (64 : Int) (s : Int) = ((64 - s : Nat) : Int) := by rw [subI_i64 (by omega)]; omega
  have g1 : (0 : Int) ≤ (s : Int) := by omega
  have g2 : (0 : Int) ≤ ((64 - s : Nat) : Int) := by omega
  -- the divisor, shifted
  have hY1 : c * 2 ^ s < 18446744073709551616 := by
    have h1 := blen_lt c
    have h2 : c * 2 ^ s < 2 ^ blen c * 2 ^ s := (Nat.mul_lt_mul_right (Nat.pow_pos (by omega))).2 h1
    rw [← Nat.pow_add, show blen c + s = 64 from by omega] at h2
    exact h2
  have hY2 : 9223372036854775808 ≤ c * 2 ^ s := by
    have h1 := blen_ge (v := c) (by omega)
    have h2 : 2 ^ (blen c - 1) * 2 ^ s ≤ c * 2 ^ s := Nat.mul_le_mul_right _ h1
    rw [← Nat.pow_add, show blen c - 1 + s = 63 from by omega] at h2
    exact h2
  have eY : shlI .u64 (c : Int) (s : Int) = ((c * 2 ^ s : Nat) : Int) := by rw [shlI_u64, Nat.mod_eq_of_lt hY1]
  have hp : 0 < 2 ^ s := Nat.pow_pos (by omega)
  -- the number, shifted
  have ha1 : a * 2 ^ s < 18446744073709551616 := Nat.lt_of_le_of_lt (Nat.mul_le_mul_right _ (by omega)) hY1
  have eb : shlI .u64 (b : Int) (s : Int) = ((b * 2 ^ s % 18446744073709551616 : Nat) : Int) := shlI_u64 b s
  have hbs : b * 2 ^ s / 18446744073709551616 < 2 ^ s := by
    rw [mul_div_pow (by omega)]
    exact div_pow_lt hbu (by omega)
  have er : orI .u64 (shlI .u64 (a : Int) (s : Int)) (shrI .u64 (b : Int) ((64 - s : Nat) : Int)) = ((a * 2 ^ s + b * 2 ^ s / 18446744073709551616 : Nat) : Int) := by
    rw [shlI_u64, Nat.mod_eq_of_lt ha1, shrI_u64 _ _ hbu, ← mul_div_pow (show s ≤ 64 by omega), orI_u64 _ _ ha1 (by
      have : b * 2 ^ s / 18446744073709551616 ≤ b := by
        rw [mul_div_pow (by omega)]
        exact Nat.div_le_self _ _
      omega), or_low hbs]
  have hr0 : a * 2 ^ s + b * 2 ^ s / 18446744073709551616 < c * 2 ^ s := by
    have : (a + 1) * 2 ^ s ≤ c * 2 ^ s := Nat.mul_le_mul_right _ (by omega)
    rw [Nat.succ_mul] at this
    omega
  have hN : (a * 18446744073709551616 + b) * 2 ^ s = (a * 2 ^ s + b * 2 ^ s / 18446744073709551616) * 18446744073709551616 + b * 2 ^ s % 18446744073709551616 := by
    rw [Nat.add_mul, Nat.mul_right_comm]
    have := Nat.div_add_mod (b * 2 ^ s) 18446744073709551616
    generalize b * 2 ^ s = B at *
    generalize a * 2 ^ s = A at *
    omega
  have hlow : b * 2 ^ s % 18446744073709551616 < 18446744073709551616 := Nat.mod_lt _ (by omega)
  unfold wDiv_b0
  rw [cond_dec, if_neg (by omega), cond_dec, if_neg (by omega), hlen, Option.bind_some, es, es2, decide_eq_true g1, decide_eq_true g2, cond_t, cond_t, cond_t, cond_t, cond_t, eY, er, eb, hi32 hlow, lo32 hlow]
  have hdiv1 : (a * 18446744073709551616 + b) * 2 ^ s / (c * 2 ^ s) = (a * 18446744073709551616 + b) / c := Nat.mul_div_mul_right _ _ hp
  have hmod1 : (a * 18446744073709551616 + b) * 2 ^ s % (c * 2 ^ s) = (a * 18446744073709551616 + b) % c * 2 ^ s := Nat.mul_mod_mul_right _ _ _
  simp only [Int.toNat_natCast]
  rw [← hdiv1]
  have hmod2 : (a * 18446744073709551616 + b) % c = ((a * 18446744073709551616 + b) * 2 ^ s % (c * 2 ^ s)) / 2 ^ s := by rw [hmod1, Nat.mul_div_cancel _ hp]
  rw [hmod2, hN]
  generalize a * 2 ^ s + b * 2 ^ s / 18446744073709551616 = r at *
  generalize b * 2 ^ s % 18446744073709551616 = w at *
  generalize c * 2 ^ s = Y at *
  have hY0 : 0 < Y := by omega
  -- the two digits
  have D1 : DivIn Y (Y / 4294967296) (Y % 4294967296) r (w / 4294967296) := ⟨by omega, by omega, by omega, by omega, hr0, by omega⟩
  have hm1 : (r * 4294967296 + w / 4294967296) % Y < Y := Nat.mod_lt _ hY0
  have hq1 : (r * 4294967296 + w / 4294967296) / Y < 4294967296 := by
    rw [Nat.div_lt_iff_lt_mul hY0]
    have : (r + 1) * 4294967296 ≤ Y * 4294967296 := Nat.mul_le_mul_right _ hr0
    omega
  have e1 := Nat.div_add_mod (r * 4294967296 + w / 4294967296) Y
  obtain ⟨q1, hQ1⟩ : ∃ q1, (r * 4294967296 + w / 4294967296) / Y = q1 := ⟨_, rfl⟩
  obtain ⟨r1, hR1⟩ : ∃ r1, (r * 4294967296 + w / 4294967296) % Y = r1 := ⟨_, rfl⟩
  rw [hQ1] at hq1
  rw [hR1] at hm1
  rw [hQ1, hR1] at e1
  have D2 : DivIn Y (Y / 4294967296) (Y % 4294967296) r1 (w % 4294967296) := ⟨by omega, by omega, by omega, by omega, hm1, by omega⟩
  have e2 := Nat.div_add_mod (r1 * 4294967296 + w % 4294967296) Y
  have hm2 : (r1 * 4294967296 + w % 4294967296) % Y < Y := Nat.mod_lt _ hY0
  obtain ⟨q2, hQ2⟩ : ∃ q2, (r1 * 4294967296 + w % 4294967296) / Y = q2 := ⟨_, rfl⟩
  obtain ⟨r2, hR2⟩ : ∃ r2, (r1 * 4294967296 + w % 4294967296) % Y = r2 := ⟨_, rfl⟩
  rw [hQ2, hR2] at e2
  rw [hR2] at hm2
  have hfin : r * 18446744073709551616 + w = Y * (q1 * 4294967296 + q2) + r2 := by
    have h3 : Y * (q1 * 4294967296 + q2) = Y * q1 * 4294967296 + Y * q2 := by rw [Nat.mul_add, Nat.mul_assoc]
    rw [h3]
    omega
  have hqf : (r * 18446744073709551616 + w) / Y = q1 * 4294967296 + q2 := by
    rw [hfin, Nat.mul_add_div hY0, Nat.div_eq_of_lt hm2, Nat.add_zero]
  have hrf : (r * 18446744073709551616 + w) % Y = r2 := by
    rw [hfin, Nat.mul_add_mod, Nat.mod_eq_of_lt hm2]
  rw [hqf, hrf]
  have hlast : ∀ k, 1 ≤ k → wDiv_L22 k (Y : Int) (s : Int) (r2 : Int) ((q1 * 4294967296 + q2 : Nat) : Int) ((1 + 1 : Nat) : Int) [((w / 4294967296 : Nat) : Int), ((w % 4294967296 : Nat) : Int)] = some (((q1 * 4294967296 + q2 : Nat) : Int), ((r2 / 2 ^ s : Nat) : Int), 0) := by
    intro k hk
    obtain ⟨k, rfl⟩ : ∃ m, k = m + 1 := ⟨k - 1, by omega⟩
    rw [wDiv_L22, wDiv_b22, cond_dec, if_neg (by omega), decide_eq_true g1, cond_t, shrI_u64 _ _ (by omega)]
  have h2nd := fun k hk => wDiv_L22_ok D2 (s := (s : Int)) hq1 (j := 1) [((w / 4294967296 : Nat) : Int), ((w % 4294967296 : Nat) : Int)] rfl rfl (by omega) 1 (by rw [hQ2, hR2]; exact hlast) k hk
  have h1st := wDiv_L22_ok D1 (s := (s : Int)) (q0 := 0) (by omega) (j := 0) [((w / 4294967296 : Nat) : Int), ((w % 4294967296 : Nat) : Int)] rfl rfl (by omega) 5 (res := some (((q1 * 4294967296 + q2 : Nat) : Int), ((r2 / 2 ^ s : Nat) : Int), 0)) (by
    intro k hk
    rw [hQ1, hR1, Nat.zero_mul, Nat.zero_add]
    exact h2nd k hk) 9
  exact wDiv_L22_ok D1 (s := (s : Int)) (q0 := 0) (by omega) (j := 0) [((w / 4294967296 : Nat) : Int), ((w % 4294967296 : Nat) : Int)] rfl rfl (by omega) 5 (by
    intro k hk
    rw [hQ1, hR1, Nat.zero_mul, Nat.zero_add]
    exact h2nd k hk) 9 (by omega)
theorem wDiv_ok : CtrOk Go.Proofs.Tryz.prog 121 (mkF [.int .u64, .int .u64, .int .u64] [.int .u64, .int .u64, .int .i64] wDivF) := by
  refine mkF_ok (c := bodyOf Go.Proofs.Tryz.f121) (tab := S.tab) (cts := [(113, mkF [.int .u64] [.int .i64] wLenF)]) (res := [6, 7, 8]) tab_ok hm ⟨wLen_ok, trivial⟩ Go.Proofs.Tryz.func121 (by kernel_rfl) (by kernel_rfl) (by kernel_rfl) (by kernel_rfl) (by kernel_rfl) ?_
  rintro ⟨a, b, c⟩ t h
  obtain ⟨k, hk⟩ := wDiv_law h
  exact ⟨wDiv_h, 3000, k, (wDiv_ev k a b c).trans hk⟩
end Go.RX.S
