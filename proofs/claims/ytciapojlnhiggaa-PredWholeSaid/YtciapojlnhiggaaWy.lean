/- plumblaw22: PredWhole. -/
import Derived.Test.YtciapojlnhiggaaWx
import Derived.Test.YtciapojlnhiggaaTl
set_option linter.unusedVariables false
set_option linter.unusedSimpArgs false
namespace Go.RX.S
open Go Go.RX Go.Proofs

/-! ### a small whole number's pattern -/
def pw2Q (k : Int) : Rat := mkRat ((2 ^ k.toNat : Nat) : Int) (2 ^ (-k).toNat)
theorem pw2Q_pos (k : Int) : 0 < pw2Q k := by
  unfold pw2Q
  rw [Rat.mkRat_eq_div, Rat.div_def]
  refine Rat.mul_pos (Rat.intCast_pos.2 (Int.natCast_pos.2 (Nat.pow_pos (by omega)))) (Rat.inv_pos.2 (Rat.natCast_pos.2 (Nat.pow_pos (by omega))))
theorem sg_int (v : Int) : sg (decide (v < 0)) v.natAbs = v := by
  unfold sg
  by_cases h : v < 0
  · rw [if_pos (by simp [h])]; omega
  · rw [if_neg (by simp [h])]; omega
theorem blen_12 {m : Nat} (h0 : 0 < m) (h1 : m ≤ 4095) : 1 ≤ blen m ∧ blen m ≤ 12 := by
  refine ⟨blen_pos (by omega), (blen_le_iff 12 m).2 ?_⟩
  have : 2 ^ 12 = 4096 := rfl
  omega
theorem lay_rng {m : Nat} (h0 : 0 < m) (h1 : m ≤ 4095) : 4503599627370496 ≤ m * 2 ^ (53 - blen m) ∧ m * 2 ^ (53 - blen m) < 9007199254740992 := by
  have hL := blen_12 h0 h1
  have a := blen_lt m
  have b := blen_ge (v := m) (by omega)
  have e1 : 2 ^ (blen m - 1) * 2 ^ (53 - blen m) = 4503599627370496 := by
    rw [← Nat.pow_add]
    have : blen m - 1 + (53 - blen m) = 52 := by omega
    rw [this]
  have e2 : 2 ^ blen m * 2 ^ (53 - blen m) = 9007199254740992 := by
    rw [← Nat.pow_add]
    have : blen m + (53 - blen m) = 53 := by omega
    rw [this]
  have hp : 0 < 2 ^ (53 - blen m) := Nat.pow_pos (by omega)
  exact ⟨e1 ▸ Nat.mul_le_mul_right _ b, e2 ▸ Nat.mul_lt_mul_of_pos_right a hp⟩
theorem pat_fv {v k : Int} (hv : -4095 ≤ v ∧ v ≤ 4095) (hk : -900 ≤ k ∧ k ≤ 900) : Wd (patV v k) ∧ ee (patV v k) ≠ 2047 ∧ fv (patV v k) = (v : Rat) * pw2Q k := by
  by_cases h0 : v = 0
  · subst h0
    have e : patV 0 k = 0 := by
      show (0 : Int) + 0 = 0
      rfl
    rw [e, fv_0]
    exact ⟨by unfold Wd; omega, by decide, (Rat.zero_mul _).symm⟩
  have hm : 0 < v.natAbs ∧ v.natAbs ≤ 4095 := by omega
  have hL := blen_12 hm.1 hm.2
  have hM := lay_rng hm.1 hm.2
  obtain ⟨m, hmm⟩ : ∃ m, m = v.natAbs := ⟨_, rfl⟩
  rw [← hmm] at hm hL hM
  obtain ⟨M, hMM⟩ : ∃ M, M = m * 2 ^ (53 - blen m) := ⟨_, rfl⟩
  rw [← hMM] at hM
  have e : patV v k = (if v < 0 then 9223372036854775808 else 0) + ((k - 53 + blen m + 1074) * 4503599627370496 + (M : Int)) := by
    show joinV (decide (v < 0)) v.natAbs k = _
    unfold joinV
    rw [← hmm, if_neg (show ¬ m = 0 by omega), ← hMM]
    simp only [decide_eq_true_eq]
  have e1 : ee (patV v k) = k - 53 + blen m + 1075 := by
    rw [e]
    unfold ee
    split <;> omega
  have e2 : ff (patV v k) = M - 4503599627370496 := by
    rw [e]
    unfold ff
    split <;> omega
  have e3 : ng (patV v k) = decide (v < 0) := by
    rw [e]
    unfold ng
    refine decide_eq_decide.2 ?_
    split <;> omega
  have e4 : mt (patV v k) = M := by
    unfold mt
    rw [e1, e2, if_neg (by omega)]
    omega
  have e5 : ex (patV v k) = k - 53 + blen m := by
    unfold ex
    rw [e1, if_neg (by omega)]
    omega
  refine ⟨by rw [e]; unfold Wd; split <;> omega, by rw [e1]; omega, ?_⟩
  have e6 : (v : Rat) = mkRat v 1 := (Rat.mkRat_one _).symm
  rw [e6, pw2Q, Rat.mkRat_mul_mkRat]
  unfold fv
  rw [e3, e4, e5, Rat.mkRat_eq_iff (pw_n0 _) (by rw [Nat.one_mul]; exact pw_n0 _), Nat.one_mul]
  have e7 : v = sg (decide (v < 0)) m := by rw [hmm, sg_int]
  have e8 : ∀ z : Nat, v * (z : Int) = sg (decide (v < 0)) (m * z) := fun z => by
    conv => lhs; rw [e7]
    exact sg_muln _ _ _
  rw [e8, sg_muln, sg_muln, hMM]
  refine congrArg _ ?_
  rw [Nat.mul_assoc, Nat.mul_assoc, Nat.mul_assoc, ← Nat.pow_add, ← Nat.pow_add, ← Nat.pow_add]
  have : 53 - blen m + ((k - 53 + (blen m : Int)).toNat + (-k).toNat) = k.toNat + (-(k - 53 + (blen m : Int))).toNat := by omega
  rw [this]

/-! ### f64.Join -/
theorem joinL_part {neg : Bool} {m : Nat} {c : Int} (hm : 0 < m ∧ m ≤ 4095) (hc : -900 ≤ c ∧ c ≤ 900) : orI .u64 (if neg then 9223372036854775808 else 0) (((c - 53 + blen m + 1075).toNat * 2 ^ 52 : Nat) : Int) = (((if neg then 9223372036854775808 else 0) + (c - 53 + blen m + 1075).toNat * 4503599627370496 : Nat) : Int) := by
  have hL := blen_12 hm.1 hm.2
  generalize hE : (c - 53 + (blen m : Int) + 1075).toNat = E
  have p52 : 2 ^ 52 = 4503599627370496 := rfl
  rw [p52]
  cases neg
  · have := orI_nat (x := 0) (y := E * 4503599627370496) (by omega) (by omega)
    have e : (0 ||| E * 4503599627370496) = E * 4503599627370496 := Nat.zero_or _
    rw [e] at this
    simpa using this
  · have := orI_nat (x := 9223372036854775808) (y := E * 4503599627370496) (by omega) (by omega)
    have h2 : 2 ^ 63 * 1 + E * 4503599627370496 = 2 ^ 63 * 1 ||| E * 4503599627370496 := Nat.two_pow_add_eq_or_of_lt (by have : 2 ^ 63 = 9223372036854775808 := rfl; omega) 1
    have p63 : 2 ^ 63 * 1 = 9223372036854775808 := rfl
    rw [p63] at h2
    rw [← h2] at this
    simpa using this
theorem or_frac {x f : Nat} (hx : x < 4096) (hf : f < 4503599627370496) : orI .u64 ((x * 4503599627370496 : Nat) : Int) (f : Int) = ((x * 4503599627370496 + f : Nat) : Int) := by
  rw [orI_nat (by omega) (by omega)]
  have h2 : 2 ^ 52 * x + f = 2 ^ 52 * x ||| f := Nat.two_pow_add_eq_or_of_lt hf x
  have p52 : 2 ^ 52 * x = x * 4503599627370496 := by rw [Nat.mul_comm]
  rw [p52] at h2
  rw [h2]
theorem tz_cut {m : Nat} (hm : m ≠ 0) : m % 2 ^ tz m = 0 := by
  have := (tz_lt_iff (tz m) m hm).2
  exact Classical.byContradiction fun h => absurd (this h) (Nat.lt_irrefl _)
theorem join_law {a : Bool × Int × Int} {t : Int × Int} (h : joinF a = some t) : ∃ k : Nat, join_b0 a.1 a.2.1 a.2.2 = some t := by
  obtain ⟨s, b, c⟩ := a
  obtain ⟨⟨h0, h1, h2, h3⟩, rfl⟩ := gu_eq.1 h
  dsimp only at h0 h1 h2 h3 ⊢
  refine ⟨0, ?_⟩
  obtain ⟨m, rfl⟩ := Int.eq_ofNat_of_zero_le h0
  by_cases hz : m = 0
  · subst hz
    cases s <;> rfl
  have hm : 0 < m ∧ m ≤ 4095 := by omega
  have hL := blen_12 hm.1 hm.2
  have hM := lay_rng hm.1 hm.2
  have hcut := tz_cut hz
  have ztop : tz m < 12 := tz_le 12 m hm.1 (by have : 2 ^ 12 = 4096 := rfl; omega)
  generalize hzz : tz m = z at hcut ztop
  have hp : 0 < 2 ^ z := Nat.pow_pos (by omega)
  have hdm : m / 2 ^ z * 2 ^ z = m := Nat.div_mul_cancel (Nat.dvd_of_mod_eq_zero hcut)
  have hn0 : m / 2 ^ z ≠ 0 := fun e => by rw [e, Nat.zero_mul] at hdm; exact hz hdm.symm
  have hbl := blen_div hn0
  have hle : m / 2 ^ z ≤ m := Nat.div_le_self _ _
  generalize hn : m / 2 ^ z = n at hdm hn0 hbl hle
  have hnp := blen_pos hn0
  have eZ : wZerosF (m : Int) = some (z : Int) := by rw [wZerosF, gu_pos ⟨Wd.of (by omega), by omega⟩, Int.toNat_natCast, hzz]
  have eS : shrI .u64 (m : Int) (z : Int) = (n : Int) := by rw [shrI_u64 _ _ (by omega), hn]
  have eL : wLenF (n : Int) = some (blen n : Int) := by rw [wLenF, gu_pos (Wd.of (by omega)), Int.toNat_natCast]
  have eA : addI .i64 c (z : Int) = c + z := addI_i64 (by omega)
  have eB : addI .i64 (c + z) (blen n : Int) = c + z + blen n := addI_i64 (by omega)
  have eC : subI .i64 53 (blen n : Int) = 53 - blen n := subI_i64 (by omega)
  have eD : addI .i64 (c + z) 1074 = c + z + 1074 := addI_i64 (by omega)
  have eM : minI (53 - (blen n : Int)) (c + z + 1074) = ((53 - blen n : Nat) : Int) := by
    unfold minI
    rw [if_neg (by omega)]
    omega
  have hlay : n * 2 ^ (53 - blen n) = m * 2 ^ (53 - blen m) := by
    rw [← hdm, hdm, ← hdm, Nat.mul_assoc, ← Nat.pow_add]
    have : 53 - blen n = z + (53 - blen (n * 2 ^ z)) := by rw [hdm]; omega
    rw [← this]
  have eH : shlI .u64 (n : Int) ((53 - blen n : Nat) : Int) = ((m * 2 ^ (53 - blen m) : Nat) : Int) := by
    rw [shlI_u64, hlay, Nat.mod_eq_of_lt (by omega)]
  have eE : subI .i64 (c + z) ((53 - blen n : Nat) : Int) = c - 53 + blen m := by rw [subI_i64 (by omega)]; omega
  have eE2 : addI .i64 (c - 53 + blen m) 1075 = c - 53 + blen m + 1075 := addI_i64 (by omega)
  have eE3 : cvI .u64 (c - 53 + blen m + 1075) = (((c - 53 + blen m + 1075).toNat : Nat) : Int) := by rw [cvI_u64 (by omega)]; omega
  have eF : shlI .u64 (((c - 53 + blen m + 1075).toNat : Nat) : Int) 52 = (((c - 53 + blen m + 1075).toNat * 2 ^ 52 : Nat) : Int) := by
    have := shlI_u64 (c - 53 + blen m + 1075).toNat 52
    have e : (((52 : Nat) : Int)) = 52 := rfl
    rw [e] at this
    rw [this, Nat.mod_eq_of_lt]
    have : 2 ^ 52 = 4503599627370496 := rfl
    omega
  have oP := fun neg => joinL_part (neg := neg) hm ⟨h2, h3⟩
  have hv : joinV s m c = (if s then 9223372036854775808 else 0) + ((c - 53 + blen m + 1074) * 4503599627370496 + ((m * 2 ^ (53 - blen m) : Nat) : Int)) := by
    unfold joinV
    rw [if_neg hz]
  generalize m * 2 ^ (53 - blen m) = M at hM eH hv
  have eG : andI .u64 (M : Int) 4503599627370495 = ((M - 4503599627370496 : Nat) : Int) := by
    have := and_mask (x := M) (by omega) 52 4503599627370495 rfl (by decide)
    have e : (((4503599627370495 : Nat) : Int)) = 4503599627370495 := rfl
    rw [e] at this
    rw [this]
    have : 2 ^ 52 = 4503599627370496 := rfl
    rw [this]
    omega
  generalize hE : (c - 53 + (blen m : Int) + 1075).toNat = E at oP eE3 eF
  have hEr : E < 2048 := by omega
  have oF := oP false
  have oT := oP true
  simp only [Bool.false_eq_true, if_false, if_true] at oF oT
  have oF2 := or_frac (x := E) (f := M - 4503599627370496) (by omega) (by omega)
  have oT2 := or_frac (x := 2048 + E) (f := M - 4503599627370496) (by omega) (by omega)
  have eT : (2048 + E) * 4503599627370496 = 9223372036854775808 + E * 4503599627370496 := by omega
  have eFF : 0 + E * 4503599627370496 = E * 4503599627370496 := by omega
  rw [eT] at oT2
  rw [eFF] at oF
  rw [Int.toNat_natCast, hv, join_b0]
  simp only [cond_dec, eZ, Option.bind_some, eS, eL, eA, eB, eC, eD, eM, eH, eE, eE2, eE3, eF, eG]
  cases s
  · rw [cond_f, if_neg (by omega), if_neg (by omega), if_neg (by omega), if_pos (by omega), if_neg (by omega), if_neg (by omega), if_neg (by omega), if_pos (by omega), if_neg (by omega)]
    rw [oF, oF2]
    refine congrArg some (Prod.ext ?_ rfl)
    simp only [Bool.false_eq_true, if_false]
    omega
  · rw [cond_t, if_neg (by omega), if_neg (by omega), if_neg (by omega), if_pos (by omega), if_neg (by omega), if_neg (by omega), if_neg (by omega), if_pos (by omega), if_neg (by omega)]
    rw [oT, oT2]
    refine congrArg some (Prod.ext ?_ rfl)
    simp only [if_true]
    omega

/-! ### the small helpers -/
theorem joinF_ok {s : Bool} {m : Nat} {e : Int} (hm : m ≤ 4095) (he : -900 ≤ e ∧ e ≤ 900) : joinF (s, (m : Int), e) = some (joinV s m e, 0) := by
  rw [joinF, gu_pos ⟨by show (0 : Int) ≤ (m : Int); omega, by show (m : Int) ≤ 4095; omega, he.1, he.2⟩]
  rfl
theorem pat22_law {a : Int × Int} {t : Int} (h : pat22F a = some t) : ∃ k : Nat, pat22_b0 a.1 a.2 = some t := by
  obtain ⟨v, k⟩ := a
  obtain ⟨⟨h0, h1, h2, h3⟩, rfl⟩ := gu_eq.1 h
  dsimp only at h0 h1 h2 h3 ⊢
  refine ⟨0, ?_⟩
  rw [pat22_b0, cond_dec]
  by_cases c : v < 0
  · have e : cvI .u64 (subI .i64 0 v) = (v.natAbs : Int) := by rw [subI_i64 (by omega), cvI_u64 (by omega)]; omega
    rw [if_pos c, e, joinF_ok (by omega) ⟨h2, h3⟩]
    rfl
  · have e : cvI .u64 v = (v.natAbs : Int) := by rw [cvI_u64 (by omega)]; omega
    rw [if_neg c, e, joinF_ok (by omega) ⟨h2, h3⟩]
    rfl
theorem within22_law {a t : Int} (h : within22F a = some t) : ∃ k : Nat, within22_b0 a = some t := by
  obtain ⟨_, rfl⟩ := gu_eq.1 h
  exact ⟨0, rfl⟩
theorem w22_rng (n : Int) : -4095 ≤ w22 n ∧ w22 n ≤ 4095 := by
  have h : (w22 n).natAbs = n.natAbs % 4096 := by
    unfold w22
    rw [Int.natAbs_tmod]
    rfl
  omega
theorem within22F_ok {n : Int} (h : I64 n) : within22F n = some (w22 n) := gu_pos h
theorem pat22F_ok {v k : Int} (hv : -4095 ≤ v ∧ v ≤ 4095) (hk : -900 ≤ k ∧ k ≤ 900) : pat22F (v, k) = some (patV v k) := gu_pos ⟨hv.1, hv.2, hk.1, hk.2⟩
theorem at22_law {a : List AV × Int} {t : List AV} (h : at22F a = some t) : ∃ k : Nat, at22_b0 a.1 a.2 = some t := by
  obtain ⟨p, k⟩ := a
  obtain ⟨⟨⟨h0, h1⟩, h2, h3⟩, rfl⟩ := gu_eq.1 h
  dsimp only at h0 h1 h2 h3 ⊢
  refine ⟨0, ?_⟩
  rw [at22_b0]
  simp only [within22F_ok h0, within22F_ok h1, Option.bind_some, pat22F_ok (w22_rng _) ⟨h2, h3⟩]
  rfl
theorem sign22F_ok {n : Int} (h : I64 n) : sign22F n = some (sgnI n) := gu_pos h
theorem sign22_law {a t : Int} (h : sign22F a = some t) : ∃ k : Nat, sign22_b0 a = some t := by
  obtain ⟨_, rfl⟩ := gu_eq.1 h
  refine ⟨0, ?_⟩
  rw [sign22_b0]
  simp only [cond_dec]
  unfold sgnI
  by_cases h1 : a < 0
  · rw [if_pos h1, if_neg (by omega), if_pos h1]
  · rw [if_neg h1]
    by_cases h2 : a > 0
    · rw [if_pos h2, if_neg (by omega), if_neg h1]
    · rw [if_neg h2, if_pos (by omega)]

/-! ### no sum of whole numbers is too great -/
def Bd (n : Int) (B : Nat) : Prop := n.natAbs ≤ B
theorem Bd.mul {a b : Int} {A B : Nat} (ha : Bd a A) (hb : Bd b B) : Bd (a * b) (A * B) := by
  unfold Bd at *
  rw [Int.natAbs_mul]
  exact Nat.mul_le_mul ha hb
theorem Bd.add {a b : Int} {A B : Nat} (ha : Bd a A) (hb : Bd b B) : Bd (a + b) (A + B) := by unfold Bd at *; omega
theorem Bd.sub {a b : Int} {A B : Nat} (ha : Bd a A) (hb : Bd b B) : Bd (a - b) (A + B) := by unfold Bd at *; omega
theorem Bd.i64 {a : Int} {A : Nat} (ha : Bd a A) (h : A ≤ 9223372036854775807) : -9223372036854775808 ≤ a ∧ a ≤ 9223372036854775807 := by unfold Bd at *; omega
theorem bd_w (n : Int) : Bd (w22 n) 4095 := by have := w22_rng n; unfold Bd; omega
theorem bdS {a b : Int} {A B : Nat} (ha : Bd a A) (hb : Bd b B) (h : A + B ≤ 9223372036854775807) : subI .i64 a b = a - b := subI_i64 ((ha.sub hb).i64 h)
theorem bdA {a b : Int} {A B : Nat} (ha : Bd a A) (hb : Bd b B) (h : A + B ≤ 9223372036854775807) : addI .i64 a b = a + b := addI_i64 ((ha.add hb).i64 h)
theorem bdM {a b : Int} {A B : Nat} (ha : Bd a A) (hb : Bd b B) (h : A * B ≤ 9223372036854775807) : mulI .i64 a b = a * b := mulI_i64 ((ha.mul hb).i64 h)
theorem subW (x y : Int) : subI .i64 (w22 x) (w22 y) = w22 x - w22 y := bdS (bd_w x) (bd_w y) (by decide)
theorem bdD (x y : Int) : Bd (w22 x - w22 y) 8190 := (bd_w x).sub (bd_w y)
theorem cross_i64 {a b c d : Int} (ha : Bd a 8190) (hb : Bd b 8190) (hc : Bd c 8190) (hd : Bd d 8190) : subI .i64 (mulI .i64 a b) (mulI .i64 c d) = a * b - c * d := by
  rw [bdM ha hb (by decide), bdM hc hd (by decide), bdS (ha.mul hb) (hc.mul hd) (by decide)]
theorem dot_i64 {a b c d : Int} (ha : Bd a 8190) (hb : Bd b 8190) (hc : Bd c 8190) (hd : Bd d 8190) : addI .i64 (mulI .i64 a b) (mulI .i64 c d) = a * b + c * d := by
  rw [bdM ha hb (by decide), bdM hc hd (by decide), bdA (ha.mul hb) (hc.mul hd) (by decide)]
theorem bd_dot {a b c d : Int} (ha : Bd a 8190) (hb : Bd b 8190) (hc : Bd c 8190) (hd : Bd d 8190) : Bd (a * b + c * d) 134152200 := (ha.mul hb).add (hc.mul hd)
theorem bd_cross {a b c d : Int} (ha : Bd a 8190) (hb : Bd b 8190) (hc : Bd c 8190) (hd : Bd d 8190) : Bd (a * b - c * d) 134152200 := (ha.mul hb).sub (hc.mul hd)
theorem det_i64 {a b c d : Int} (ha : Bd a 8190) (hb : Bd b 134152200) (hc : Bd c 8190) (hd : Bd d 134152200) : subI .i64 (mulI .i64 a b) (mulI .i64 c d) = a * b - c * d := by
  rw [bdM ha hb (by decide), bdM hc hd (by decide), bdS (ha.mul hb) (hc.mul hd) (by decide)]
theorem bd_det {a b c d : Int} (ha : Bd a 8190) (hb : Bd b 134152200) (hc : Bd c 8190) (hd : Bd d 134152200) : Bd (a * b - c * d) 2197413036000 := (ha.mul hb).sub (hc.mul hd)
def ciI (px py qx qy rx ry : Int) : Int := px * (qy * (rx * rx + ry * ry) - ry * (qx * qx + qy * qy)) - py * (qx * (rx * rx + ry * ry) - rx * (qx * qx + qy * qy)) + (px * px + py * py) * (qx * ry - rx * qy)
theorem circ_i64 {px py qx qy rx ry : Int} (p0 : Bd px 8190) (p1 : Bd py 8190) (q0 : Bd qx 8190) (q1 : Bd qy 8190) (r0 : Bd rx 8190) (r1 : Bd ry 8190) :
    addI .i64 (subI .i64 (mulI .i64 px (subI .i64 (mulI .i64 qy (addI .i64 (mulI .i64 rx rx) (mulI .i64 ry ry))) (mulI .i64 ry (addI .i64 (mulI .i64 qx qx) (mulI .i64 qy qy))))) (mulI .i64 py (subI .i64 (mulI .i64 qx (addI .i64 (mulI .i64 rx rx) (mulI .i64 ry ry))) (mulI .i64 rx (addI .i64 (mulI .i64 qx qx) (mulI .i64 qy qy)))))) (mulI .i64 (addI .i64 (mulI .i64 px px) (mulI .i64 py py)) (subI .i64 (mulI .i64 qx ry) (mulI .i64 rx qy))) = ciI px py qx qy rx ry ∧ I64 (ciI px py qx qy rx ry) := by
  have bp := bd_dot p0 p0 p1 p1
  have bq := bd_dot q0 q0 q1 q1
  have br := bd_dot r0 r0 r1 r1
  have d1 := bd_det q1 br r1 bq
  have d2 := bd_det q0 br r0 bq
  have cr := bd_cross q0 r1 r0 q1
  rw [dot_i64 p0 p0 p1 p1, dot_i64 q0 q0 q1 q1, dot_i64 r0 r0 r1 r1, cross_i64 q0 r1 r0 q1, det_i64 q1 br r1 bq, det_i64 q0 br r0 bq, bdM p0 d1 (by decide), bdM p1 d2 (by decide), bdM bp cr (by decide), bdS (p0.mul d1) (p1.mul d2) (by decide), bdA ((p0.mul d1).sub (p1.mul d2)) (bp.mul cr) (by decide)]
  exact ⟨rfl, (((p0.mul d1).sub (p1.mul d2)).add (bp.mul cr)).i64 (by decide)⟩
theorem side22_law {a : List AV × List AV × List AV} {t : Int} (h : side22F a = some t) : ∃ k : Nat, side22_b0 a.1 a.2.1 a.2.2 = some t := by
  obtain ⟨a, b, c⟩ := a
  obtain ⟨⟨⟨a0, a1⟩, ⟨b0, b1⟩, ⟨c0, c1⟩⟩, rfl⟩ := gu_eq.1 h
  dsimp only at a0 a1 b0 b1 c0 c1 ⊢
  refine ⟨0, ?_⟩
  rw [side22_b0]
  simp only [within22F_ok a0, within22F_ok a1, within22F_ok b0, within22F_ok b1, within22F_ok c0, within22F_ok c1, Option.bind_some, subW]
  rw [cross_i64 (bdD _ _) (bdD _ _) (bdD _ _) (bdD _ _)]
  rfl
theorem far22_law {a : List AV × List AV} {t : Int} (h : far22F a = some t) : ∃ k : Nat, far22_b0 a.1 a.2 = some t := by
  obtain ⟨a, b⟩ := a
  obtain ⟨⟨⟨a0, a1⟩, ⟨b0, b1⟩⟩, rfl⟩ := gu_eq.1 h
  dsimp only at a0 a1 b0 b1 ⊢
  refine ⟨0, ?_⟩
  rw [far22_b0]
  simp only [within22F_ok a0, within22F_ok a1, within22F_ok b0, within22F_ok b1, Option.bind_some, subW]
  rw [dot_i64 (bdD _ _) (bdD _ _) (bdD _ _) (bdD _ _)]
  rfl

/-! ### by whole numbers -/
theorem sgnQ_sc {s q : Rat} (hs : 0 < s) : sgnQ (s * q) = sgnQ q := by
  rcases tri q with h | h | h
  · rw [sgnQ_n h, sgnQ_n]
    have := Rat.mul_pos hs (show 0 < -q by grind)
    grind
  · rw [h, Rat.mul_zero]
  · rw [sgnQ_p h, sgnQ_p (Rat.mul_pos hs h)]
theorem sgnQ_int (n : Int) : sgnQ (n : Rat) = sgnI n := by unfold sgnQ; rw [Rat.num_intCast]
/-- A spot's point. -/
structure Spot (p : List AV) (x y : Int) (k : Int) : Prop where
  pt : isPt p
  fin : fin p = true
  x : X p = (x : Rat) * pw2Q k
  y : Y p = (y : Rat) * pw2Q k
theorem spot_of (a : List AV) {k : Int} (hk : -900 ≤ k ∧ k ≤ 900) : Spot (at22V a k) (sX a) (sY a) k := by
  obtain ⟨x1, x2, x3⟩ := pat_fv (w22_rng (aget a 0).toInt) hk
  obtain ⟨y1, y2, y3⟩ := pat_fv (w22_rng (aget a 1).toInt) hk
  exact ⟨⟨x1, y1⟩, decide_eq_true ⟨x2, y2⟩, x3, y3⟩
section
variable {A B C D : List AV} {ax ay bx bY cx cy dx dy k : Int}
theorem ar_int (a : Spot A ax ay k) (b : Spot B bx bY k) (c : Spot C cx cy k) : sgnQ (arP A B C) = sgnI ((bx - ax) * (cy - ay) - (bY - ay) * (cx - ax)) := by
  have hs := pw2Q_pos k
  have e : arP A B C = (pw2Q k * pw2Q k) * ((((bx - ax) * (cy - ay) - (bY - ay) * (cx - ax) : Int)) : Rat) := by
    unfold arP arQ
    rw [a.x, a.y, b.x, b.y, c.x, c.y]
    simp only [Rat.intCast_sub, Rat.intCast_mul]
    grind
  rw [e, sgnQ_sc (Rat.mul_pos hs hs), sgnQ_int]
theorem ds_int (a : Spot A ax ay k) (b : Spot B bx bY k) (c : Spot C cx cy k) (d : Spot D dx dy k) : sgnQ (dsP A B - dsP C D) = sgnI (((ax - bx) * (ax - bx) + (ay - bY) * (ay - bY)) - ((cx - dx) * (cx - dx) + (cy - dy) * (cy - dy))) := by
  have hs := pw2Q_pos k
  have e : dsP A B - dsP C D = (pw2Q k * pw2Q k) * (((((ax - bx) * (ax - bx) + (ay - bY) * (ay - bY)) - ((cx - dx) * (cx - dx) + (cy - dy) * (cy - dy)) : Int)) : Rat) := by
    unfold dsP sqQ
    rw [a.x, a.y, b.x, b.y, c.x, c.y, d.x, d.y]
    simp only [Rat.intCast_sub, Rat.intCast_mul, Rat.intCast_add]
    grind
  rw [e, sgnQ_sc (Rat.mul_pos hs hs), sgnQ_int]
theorem or_int (a : Spot A ax ay k) (b : Spot B bx bY k) : orP A B = if sgnI (ax - bx) = 0 then sgnI (ay - bY) else sgnI (ax - bx) := by
  have hs := pw2Q_pos k
  have e1 : X A - X B = pw2Q k * (((ax - bx : Int)) : Rat) := by rw [a.x, b.x, Rat.intCast_sub]; grind
  have e2 : Y A - Y B = pw2Q k * (((ay - bY : Int)) : Rat) := by rw [a.y, b.y, Rat.intCast_sub]; grind
  unfold orP orQ
  rw [e1, e2, sgnQ_sc hs, sgnQ_sc hs, sgnQ_int, sgnQ_int]
  by_cases h : sgnI (ax - bx) = 0
  · rw [if_neg (by omega), if_pos h]
  · rw [if_pos h, if_neg h]
theorem ciQ_sc (s p0 p1 q0 q1 r0 r1 : Rat) : ciQ (p0 * s) (p1 * s) (q0 * s) (q1 * s) (r0 * s) (r1 * s) = ((s * s) * (s * s)) * ciQ p0 p1 q0 q1 r0 r1 := by unfold ciQ sqQ; grind
theorem ci_int (a : Spot A ax ay k) (b : Spot B bx bY k) (c : Spot C cx cy k) (d : Spot D dx dy k) : sgnQ (ciP A B C D) = sgnI (ciI (ax - dx) (ay - dy) (bx - dx) (bY - dy) (cx - dx) (cy - dy)) := by
  have hs := pw2Q_pos k
  have df : ∀ x y : Int, (x : Rat) * pw2Q k - (y : Rat) * pw2Q k = (((x - y : Int)) : Rat) * pw2Q k := fun x y => by rw [Rat.intCast_sub]; grind
  have e : ciP A B C D = ((pw2Q k * pw2Q k) * (pw2Q k * pw2Q k)) * ((ciI (ax - dx) (ay - dy) (bx - dx) (bY - dy) (cx - dx) (cy - dy) : Int) : Rat) := by
    unfold ciP
    rw [a.x, a.y, b.x, b.y, c.x, c.y, d.x, d.y, df, df, df, df, df, df, ciQ_sc]
    congr 1
    unfold ciQ sqQ ciI
    simp only [Rat.intCast_sub, Rat.intCast_mul, Rat.intCast_add]
  rw [e, sgnQ_sc (Rat.mul_pos (Rat.mul_pos hs hs) (Rat.mul_pos hs hs)), sgnQ_int]
end
/-! ### between -/
def lx (x y : Int) : Int := if sgnI x = 0 then sgnI y else sgnI x
theorem sgnI_cases (z : Int) : (z < 0 ∧ sgnI z = -1) ∨ (z = 0 ∧ sgnI z = 0) ∨ (0 < z ∧ sgnI z = 1) := by
  unfold sgnI
  split
  · omega
  · split <;> omega
theorem lx_cases (x y : Int) : ((x < 0 ∨ x = 0 ∧ y < 0) ∧ lx x y = -1) ∨ ((x = 0 ∧ y = 0) ∧ lx x y = 0) ∨ ((0 < x ∨ x = 0 ∧ 0 < y) ∧ lx x y = 1) := by
  unfold lx
  rcases sgnI_cases x with h | h | h <;> rcases sgnI_cases y with h2 | h2 | h2 <;> split <;> omega
theorem mul_le0 {a b : Int} (hb : 0 < b) : a * b ≤ 0 ↔ a ≤ 0 := by
  constructor
  · intro h
    rcases Int.lt_or_le 0 a with h' | h'
    · have := Int.mul_pos h' hb
      omega
    · exact h'
  · intro h
    have := Int.mul_nonneg (show 0 ≤ -a by omega) (show 0 ≤ b by omega)
    rw [Int.neg_mul] at this
    omega
theorem mul_ge0 {a b : Int} (hb : 0 < b) : 0 ≤ a * b ↔ 0 ≤ a := by
  have := mul_le0 (a := -a) hb
  rw [Int.neg_mul] at this
  omega
theorem ss_pos {x y : Int} (h : x ≠ 0) : 0 < x * x + y * y := by
  have h1 : 0 < x * x := by
    rcases Int.lt_or_le x 0 with h' | h'
    · exact Int.mul_pos_of_neg_of_neg h' h'
    · exact Int.mul_pos (by omega) (by omega)
  have h2 : 0 ≤ y * y := by
    rcases Int.lt_or_le y 0 with h' | h'
    · exact Int.le_of_lt (Int.mul_pos_of_neg_of_neg h' h')
    · exact Int.mul_nonneg h' h'
  omega
theorem between_int {ux uy wx wy : Int} (h : ux * wy = wx * uy) : (lx (-ux) (-uy) ≤ 0 ∧ lx wx wy ≤ 0 ∨ lx (-ux) (-uy) ≥ 0 ∧ lx wx wy ≥ 0) ↔ ux * wx + uy * wy ≤ 0 := by
  have hk : (ux * wx + uy * wy) * ux = wx * (ux * ux + uy * uy) := by
    have : uy * (ux * wy) = uy * (wx * uy) := by rw [h]
    grind
  have c1 := lx_cases (-ux) (-uy)
  have c2 := lx_cases wx wy
  rcases Int.lt_trichotomy ux 0 with u | u | u
  · have hS := ss_pos (y := uy) (show ux ≠ 0 by omega)
    have e1 : 0 ≤ (ux * wx + uy * wy) * ux ↔ 0 ≤ wx := by rw [hk]; exact mul_ge0 hS
    have e2 : 0 ≤ (-(ux * wx + uy * wy)) * (-ux) ↔ 0 ≤ -(ux * wx + uy * wy) := mul_ge0 (by omega)
    rw [Int.neg_mul_neg] at e2
    have w0 : wx = 0 → wy = 0 := fun e => by
      rw [e, Int.zero_mul] at h
      rcases Int.mul_eq_zero.1 h with h' | h' <;> omega
    have : wx = 0 ∨ wx ≠ 0 := by omega
    rcases this with e | e
    · have := w0 e
      omega
    · omega
  · subst u
    have h' : wx * uy = 0 := by omega
    simp only [Int.zero_mul, Int.zero_add]
    rcases Int.lt_trichotomy uy 0 with v | v | v
    · have wz : wx = 0 := by rcases Int.mul_eq_zero.1 h' with h' | h' <;> omega
      have e2 : 0 ≤ (-wy) * (-uy) ↔ 0 ≤ -wy := mul_ge0 (by omega)
      have e3 : 0 ≤ wy * (-uy) ↔ 0 ≤ wy := mul_ge0 (by omega)
      have e4 : wy * (-uy) = -(uy * wy) := by rw [Int.mul_neg, Int.mul_comm]
      omega
    · subst v
      simp only [Int.zero_mul]
      omega
    · have wz : wx = 0 := by rcases Int.mul_eq_zero.1 h' with h' | h' <;> omega
      have e3 : wy * uy ≤ 0 ↔ wy ≤ 0 := mul_le0 v
      have e4 : wy * uy = uy * wy := Int.mul_comm _ _
      omega
  · have hS := ss_pos (y := uy) (show ux ≠ 0 by omega)
    have e1 : (ux * wx + uy * wy) * ux ≤ 0 ↔ wx ≤ 0 := by rw [hk]; exact mul_le0 hS
    have e2 : (ux * wx + uy * wy) * ux ≤ 0 ↔ (ux * wx + uy * wy) ≤ 0 := mul_le0 u
    have w0 : wx = 0 → wy = 0 := fun e => by
      rw [e, Int.zero_mul] at h
      rcases Int.mul_eq_zero.1 h with h' | h' <;> omega
    have : wx = 0 ∨ wx ≠ 0 := by omega
    rcases this with e | e
    · have := w0 e
      omega
    · omega
theorem sgnI_0 {z : Int} : sgnI z = 0 ↔ z = 0 := by rcases sgnI_cases z with h | h | h <;> omega
section
variable {A B C D : List AV} {ax ay bx bY cx cy dx dy k : Int}
theorem bt_int (a : Spot A ax ay k) (b : Spot B bx bY k) (c : Spot C cx cy k) : btP A B C = decide ((bx - ax) * (cy - ay) - (bY - ay) * (cx - ax) = 0 ∧ (cx - ax) * (cx - bx) + (cy - ay) * (cy - bY) ≤ 0) := by
  unfold btP
  refine decide_eq_decide.2 ?_
  rw [ar_int a b c, sgnI_0]
  refine and_congr_right fun h => ?_
  have e1 : orP A C = lx (-(cx - ax)) (-(cy - ay)) := by
    rw [or_int a c]
    have : -(cx - ax) = ax - cx := by omega
    rw [this]
    have : -(cy - ay) = ay - cy := by omega
    rw [this]
    rfl
  have e2 : orP C B = lx (cx - bx) (cy - bY) := or_int c b
  rw [e1, e2]
  refine between_int ?_
  grind
end

/-! ### PredWhole -/
theorem pts_ff (p : List AV) (x y : Int) (h : p = pt x y) : [AV.int .u64 (AV.toInt (aget p 0)), AV.int .u64 (AV.toInt (aget p 1))] = p := by
  rw [h]
  rfl
theorem bnot_eq {α : Type} (p : α) [DecidableEq α] : (!decide (p = p)) = false := by rw [decide_eq_true rfl]; rfl
theorem Whole_end {b : Bool} {S T o s1 s2 : Int} (hb : b = decide (S = 0 ∧ T ≤ 0)) (ho : o = if s1 = 0 then s2 else s1) :
    (bif decide (S = 0) then bif !decide (b = decide (T ≤ 0)) then some false else bif decide (s1 = 0) then some (decide (o = s2)) else some (decide (o = s1)) else bif !decide (b = false) then some false else bif decide (s1 = 0) then some (decide (o = s2)) else some (decide (o = s1))) = some true := by
  have e5 : (bif decide (s1 = 0) then some (decide (o = s2)) else some (decide (o = s1))) = some true := by
    rw [cond_dec, ho]
    by_cases c : s1 = 0
    · rw [if_pos c, if_pos c, decide_eq_true rfl]
    · rw [if_neg c, if_neg c, decide_eq_true rfl]
  by_cases c : S = 0
  · have e1 : b = decide (T ≤ 0) := by rw [hb]; exact decide_eq_decide.2 (and_iff_right c)
    rw [decide_eq_true c, cond_t, e1, bnot_eq, cond_f]
    exact e5
  · have e1 : b = false := by rw [hb]; exact decide_eq_false (fun h => c h.1)
    rw [decide_eq_false c, cond_f, e1, bnot_eq, cond_f]
    exact e5
set_option maxHeartbeats 1000000 in
theorem PredWhole_law {q : List AV} {t : Bool} (h : PredWholeF q = some t) : ∃ k : Nat, PredWhole_b0 q = some t := by
  obtain ⟨hw, rfl⟩ := gu_eq.1 h
  refine ⟨0, ?_⟩
  have i0 := hw 0 (by omega)
  have i1 := hw 1 (by omega)
  have i2 := hw 2 (by omega)
  have i3 := hw 3 (by omega)
  have i4 := hw 4 (by omega)
  have i5 := hw 5 (by omega)
  have i6 := hw 6 (by omega)
  have i7 := hw 7 (by omega)
  rw [PredWhole_b0]
  generalize AV.toInt (aget q 0) = v0 at i0 ⊢
  generalize AV.toInt (aget q 1) = v1 at i1 ⊢
  generalize AV.toInt (aget q 2) = v2 at i2 ⊢
  generalize AV.toInt (aget q 3) = v3 at i3 ⊢
  generalize AV.toInt (aget q 4) = v4 at i4 ⊢
  generalize AV.toInt (aget q 5) = v5 at i5 ⊢
  generalize AV.toInt (aget q 6) = v6 at i6 ⊢
  generalize AV.toInt (aget q 7) = v7 at i7 ⊢
  have hK : -900 ≤ remI (AV.toInt (aget q 8)) 900 ∧ remI (AV.toInt (aget q 8)) 900 ≤ 900 := by
    have h : (remI (AV.toInt (aget q 8)) 900).natAbs = (AV.toInt (aget q 8)).natAbs % 900 := by
      unfold remI
      rw [Int.natAbs_tmod]
      rfl
    omega
  generalize remI (AV.toInt (aget q 8)) 900 = K at hK ⊢
  obtain ⟨w0, hw0⟩ : ∃ w, w22 v0 = w := ⟨_, rfl⟩
  have b0 : Bd w0 4095 := hw0 ▸ bd_w v0
  have r0 : within22F v0 = some w0 := hw0 ▸ within22F_ok i0
  obtain ⟨w1, hw1⟩ : ∃ w, w22 v1 = w := ⟨_, rfl⟩
  have b1 : Bd w1 4095 := hw1 ▸ bd_w v1
  have r1 : within22F v1 = some w1 := hw1 ▸ within22F_ok i1
  obtain ⟨w2, hw2⟩ : ∃ w, w22 v2 = w := ⟨_, rfl⟩
  have b2 : Bd w2 4095 := hw2 ▸ bd_w v2
  have r2 : within22F v2 = some w2 := hw2 ▸ within22F_ok i2
  obtain ⟨w3, hw3⟩ : ∃ w, w22 v3 = w := ⟨_, rfl⟩
  have b3 : Bd w3 4095 := hw3 ▸ bd_w v3
  have r3 : within22F v3 = some w3 := hw3 ▸ within22F_ok i3
  obtain ⟨w4, hw4⟩ : ∃ w, w22 v4 = w := ⟨_, rfl⟩
  have b4 : Bd w4 4095 := hw4 ▸ bd_w v4
  have r4 : within22F v4 = some w4 := hw4 ▸ within22F_ok i4
  obtain ⟨w5, hw5⟩ : ∃ w, w22 v5 = w := ⟨_, rfl⟩
  have b5 : Bd w5 4095 := hw5 ▸ bd_w v5
  have r5 : within22F v5 = some w5 := hw5 ▸ within22F_ok i5
  obtain ⟨w6, hw6⟩ : ∃ w, w22 v6 = w := ⟨_, rfl⟩
  have b6 : Bd w6 4095 := hw6 ▸ bd_w v6
  have r6 : within22F v6 = some w6 := hw6 ▸ within22F_ok i6
  obtain ⟨w7, hw7⟩ : ∃ w, w22 v7 = w := ⟨_, rfl⟩
  have b7 : Bd w7 4095 := hw7 ▸ bd_w v7
  have r7 : within22F v7 = some w7 := hw7 ▸ within22F_ok i7
  obtain ⟨PA, hPA⟩ : ∃ p, p = at22V [AV.int .i64 v0, AV.int .i64 v1] K := ⟨_, rfl⟩
  have gA : at22F ([AV.int .i64 v0, AV.int .i64 v1], K) = some PA := by rw [hPA]; exact gu_pos ⟨⟨i0, i1⟩, hK.1, hK.2⟩
  have sA : Spot PA (w0) (w1) K := by rw [hPA, ← hw0, ← hw1]; exact spot_of _ hK
  have pA := pts_ff PA _ _ hPA
  obtain ⟨PB, hPB⟩ : ∃ p, p = at22V [AV.int .i64 v2, AV.int .i64 v3] K := ⟨_, rfl⟩
  have gB : at22F ([AV.int .i64 v2, AV.int .i64 v3], K) = some PB := by rw [hPB]; exact gu_pos ⟨⟨i2, i3⟩, hK.1, hK.2⟩
  have sB : Spot PB (w2) (w3) K := by rw [hPB, ← hw2, ← hw3]; exact spot_of _ hK
  have pB := pts_ff PB _ _ hPB
  obtain ⟨PC, hPC⟩ : ∃ p, p = at22V [AV.int .i64 v4, AV.int .i64 v5] K := ⟨_, rfl⟩
  have gC : at22F ([AV.int .i64 v4, AV.int .i64 v5], K) = some PC := by rw [hPC]; exact gu_pos ⟨⟨i4, i5⟩, hK.1, hK.2⟩
  have sC : Spot PC (w4) (w5) K := by rw [hPC, ← hw4, ← hw5]; exact spot_of _ hK
  have pC := pts_ff PC _ _ hPC
  obtain ⟨PD, hPD⟩ : ∃ p, p = at22V [AV.int .i64 v6, AV.int .i64 v7] K := ⟨_, rfl⟩
  have gD : at22F ([AV.int .i64 v6, AV.int .i64 v7], K) = some PD := by rw [hPD]; exact gu_pos ⟨⟨i6, i7⟩, hK.1, hK.2⟩
  have sD : Spot PD (w6) (w7) K := by rw [hPD, ← hw6, ← hw7]; exact spot_of _ hK
  have pD := pts_ff PD _ _ hPD
  have gS : side22F ([AV.int .i64 v0, AV.int .i64 v1], [AV.int .i64 v2, AV.int .i64 v3], [AV.int .i64 v4, AV.int .i64 v5]) = some ((w2 - w0) * (w5 - w1) - (w3 - w1) * (w4 - w0)) := by
    rw [← hw0, ← hw1, ← hw2, ← hw3, ← hw4, ← hw5]
    exact gu_pos ⟨⟨i0, i1⟩, ⟨i2, i3⟩, ⟨i4, i5⟩⟩
  have gF1 : far22F ([AV.int .i64 v0, AV.int .i64 v1], [AV.int .i64 v2, AV.int .i64 v3]) = some ((w0 - w2) * (w0 - w2) + (w1 - w3) * (w1 - w3)) := by
    rw [← hw0, ← hw1, ← hw2, ← hw3]
    exact gu_pos ⟨⟨i0, i1⟩, ⟨i2, i3⟩⟩
  have gF2 : far22F ([AV.int .i64 v4, AV.int .i64 v5], [AV.int .i64 v6, AV.int .i64 v7]) = some ((w4 - w6) * (w4 - w6) + (w5 - w7) * (w5 - w7)) := by
    rw [← hw4, ← hw5, ← hw6, ← hw7]
    exact gu_pos ⟨⟨i4, i5⟩, ⟨i6, i7⟩⟩
  have a1 := ar_int sA sB sC
  have a2 := ci_int sA sB sC sD
  have a3 := bt_int sA sB sC
  have a4 := ds_int sA sB sC sD
  have a5 := or_int sA sB
  have ci := circ_i64 (b0.sub b6) (b1.sub b7) (b2.sub b6) (b3.sub b7) (b4.sub b6) (b5.sub b7)
  have hd := dot_i64 (b4.sub b0) (b4.sub b2) (b5.sub b1) (b5.sub b3)
  have hf := bdS (bd_dot (b0.sub b2) (b0.sub b2) (b1.sub b3) (b1.sub b3)) (bd_dot (b4.sub b6) (b4.sub b6) (b5.sub b7) (b5.sub b7)) (by decide)
  have k1 : I64 ((w2 - w0) * (w5 - w1) - (w3 - w1) * (w4 - w0)) := (bd_cross (b2.sub b0) (b5.sub b1) (b3.sub b1) (b4.sub b0)).i64 (by decide)
  have k2 := ((bd_dot (b0.sub b2) (b0.sub b2) (b1.sub b3) (b1.sub b3)).sub (bd_dot (b4.sub b6) (b4.sub b6) (b5.sub b7) (b5.sub b7))).i64 (by decide)
  have k3 : I64 (w0 - w2) := (b0.sub b2).i64 (by decide)
  have k4 : I64 (w1 - w3) := (b1.sub b3).i64 (by decide)
  have z1 := sign22F_ok k1
  have z2 := sign22F_ok ci.2
  have z3 := sign22F_ok k2
  have z4 := sign22F_ok k3
  have z5 := sign22F_ok k4
  have m02 : subI .i64 w0 w2 = w0 - w2 := bdS b0 b2 (by decide)
  have m13 : subI .i64 w1 w3 = w1 - w3 := bdS b1 b3 (by decide)
  have m06 : subI .i64 w0 w6 = w0 - w6 := bdS b0 b6 (by decide)
  have m17 : subI .i64 w1 w7 = w1 - w7 := bdS b1 b7 (by decide)
  have m26 : subI .i64 w2 w6 = w2 - w6 := bdS b2 b6 (by decide)
  have m37 : subI .i64 w3 w7 = w3 - w7 := bdS b3 b7 (by decide)
  have m46 : subI .i64 w4 w6 = w4 - w6 := bdS b4 b6 (by decide)
  have m57 : subI .i64 w5 w7 = w5 - w7 := bdS b5 b7 (by decide)
  have m40 : subI .i64 w4 w0 = w4 - w0 := bdS b4 b0 (by decide)
  have m42 : subI .i64 w4 w2 = w4 - w2 := bdS b4 b2 (by decide)
  have m51 : subI .i64 w5 w1 = w5 - w1 := bdS b5 b1 (by decide)
  have m53 : subI .i64 w5 w3 = w5 - w3 := bdS b5 b3 (by decide)
  have z : (!decide ((0 : Int) = 0)) = false := rfl
  have zz : decide ((0 : Int) = 0) = true := rfl
  simp only [gA, gB, gC, gD, gS, gF1, gF2, pA, pB, pC, pD, Option.bind_some, pdOrientF_ok sA.pt sB.pt sC.pt, pdInCircleF_ok sA.pt sB.pt sC.pt sD.pt, pdBetweenF_ok sA.pt sB.pt sC.pt, pdNearerF_ok sA.pt sB.pt sC.pt sD.pt, pdOrdF_ok sA.pt sB.pt, sA.fin, sB.fin, sC.fin, sD.fin, Bool.and_true, if_true, num22_0, z, zz, cond_f, cond_t, r0, r1, r2, r3, r4, r5, r6, r7, m02, m13, m06, m17, m26, m37, m46, m57, m40, m42, m51, m53, ci.1, hd, hf, z1, z2, z3, z4, z5, a1, a2, a4, bnot_eq]
  exact Whole_end a3 a5
theorem join_ok : CtrOk Go.Proofs.Try.prog 55 (mkF [.bool, .int .u64, .int .i64] [.int .u64, .int .i64] joinF) := by
  refine mkF_ok (c := bodyOf Go.Proofs.Try.f55) (tab := S.tab) (cts := [(73, mkF [.int .u64] [.int .i64] wZerosF), (74, mkF [.int .u64] [.int .i64] wLenF)]) (res := [6, 7]) tab_ok hm ⟨wZeros_ok, wLen_ok, trivial⟩ Go.Proofs.Try.func55 (by kernel_rfl) (by kernel_rfl) (by kernel_rfl) (by kernel_rfl) (by kernel_rfl) ?_
  rintro ⟨a, b, c⟩ t h
  obtain ⟨k, hk⟩ := join_law h
  exact ⟨join_h, 3000, k, (join_ev k a b c).trans hk⟩

theorem pat22_ok : CtrOk Go.Proofs.Try.prog 40 (mkF [.int .i64, .int .i64] [.int .u64] pat22F) := by
  refine mkF_ok (c := bodyOf Go.Proofs.Try.f40) (tab := S.tab) (cts := [(55, mkF [.bool, .int .u64, .int .i64] [.int .u64, .int .i64] joinF)]) (res := [4]) tab_ok hm ⟨join_ok, trivial⟩ Go.Proofs.Try.func40 (by kernel_rfl) (by kernel_rfl) (by kernel_rfl) (by kernel_rfl) (by kernel_rfl) ?_
  rintro ⟨a, b⟩ t h
  obtain ⟨k, hk⟩ := pat22_law h
  exact ⟨pat22_h, 3000, k, (pat22_ev k a b).trans hk⟩

theorem within22_ok : CtrOk Go.Proofs.Try.prog 22 (mkF [.int .i64] [.int .i64] within22F) := by
  refine mkF_ok (c := bodyOf Go.Proofs.Try.f22) (tab := S.tab) (cts := []) (res := [2]) tab_ok hm trivial Go.Proofs.Try.func22 (by kernel_rfl) (by kernel_rfl) (by kernel_rfl) (by kernel_rfl) (by kernel_rfl) ?_
  rintro a t h
  obtain ⟨k, hk⟩ := within22_law h
  exact ⟨within22_h, 3000, k, (within22_ev k a).trans hk⟩

theorem at22_ok : CtrOk Go.Proofs.Try.prog 19 (mkF [.st [.int .i64, .int .i64], .int .i64] [.st [.int .u64, .int .u64]] at22F) := by
  refine mkR_ok (c := bodyOf Go.Proofs.Try.f19) (tab := S.tab) (cts := [(22, mkF [.int .i64] [.int .i64] within22F), (40, mkF [.int .i64, .int .i64] [.int .u64] pat22F)]) (res := [.cell 4 24]) tab_ok hm ⟨within22_ok, pat22_ok, trivial⟩ Go.Proofs.Try.func19 (by kernel_rfl) (by kernel_rfl) (by kernel_rfl) (by kernel_rfl) (by kernel_rfl) ?_
  rintro ⟨a, b⟩ t h
  obtain ⟨k, hk⟩ := at22_law h
  exact ⟨at22_h, 3000, k, (at22_ev k a b).trans hk⟩

theorem sign22_ok : CtrOk Go.Proofs.Try.prog 21 (mkF [.int .i64] [.int .i64] sign22F) := by
  refine mkF_ok (c := bodyOf Go.Proofs.Try.f21) (tab := S.tab) (cts := []) (res := [2]) tab_ok hm trivial Go.Proofs.Try.func21 (by kernel_rfl) (by kernel_rfl) (by kernel_rfl) (by kernel_rfl) (by kernel_rfl) ?_
  rintro a t h
  obtain ⟨k, hk⟩ := sign22_law h
  exact ⟨sign22_h, 3000, k, (sign22_ev k a).trans hk⟩

theorem side22_ok : CtrOk Go.Proofs.Try.prog 20 (mkF [.st [.int .i64, .int .i64], .st [.int .i64, .int .i64], .st [.int .i64, .int .i64]] [.int .i64] side22F) := by
  refine mkF_ok (c := bodyOf Go.Proofs.Try.f20) (tab := S.tab) (cts := [(22, mkF [.int .i64] [.int .i64] within22F)]) (res := [6]) tab_ok hm ⟨within22_ok, trivial⟩ Go.Proofs.Try.func20 (by kernel_rfl) (by kernel_rfl) (by kernel_rfl) (by kernel_rfl) (by kernel_rfl) ?_
  rintro ⟨a, b, c⟩ t h
  obtain ⟨k, hk⟩ := side22_law h
  exact ⟨side22_h, 3000, k, (side22_ev k a b c).trans hk⟩

theorem far22_ok : CtrOk Go.Proofs.Try.prog 23 (mkF [.st [.int .i64, .int .i64], .st [.int .i64, .int .i64]] [.int .i64] far22F) := by
  refine mkF_ok (c := bodyOf Go.Proofs.Try.f23) (tab := S.tab) (cts := [(22, mkF [.int .i64] [.int .i64] within22F)]) (res := [4]) tab_ok hm ⟨within22_ok, trivial⟩ Go.Proofs.Try.func23 (by kernel_rfl) (by kernel_rfl) (by kernel_rfl) (by kernel_rfl) (by kernel_rfl) ?_
  rintro ⟨a, b⟩ t h
  obtain ⟨k, hk⟩ := far22_law h
  exact ⟨far22_h, 3000, k, (far22_ev k a b).trans hk⟩

theorem PredWhole_ok : CtrOk Go.Proofs.Try.prog 6 (mkF [.st [.int .i64, .int .i64, .int .i64, .int .i64, .int .i64, .int .i64, .int .i64, .int .i64, .int .i64]] [.bool] PredWholeF) := by
  refine mkF_ok (c := bodyOf Go.Proofs.Try.f6) (tab := S.tab) (cts := [(19, mkF [.st [.int .i64, .int .i64], .int .i64] [.st [.int .u64, .int .u64]] at22F), (10, mkF [.st [.int .u64, .int .u64], .st [.int .u64, .int .u64], .st [.int .u64, .int .u64]] [.int .i64, .int .i64] pdOrientF), (20, mkF [.st [.int .i64, .int .i64], .st [.int .i64, .int .i64], .st [.int .i64, .int .i64]] [.int .i64] side22F), (13, mkF [.int .i64] [.int .i64] num22F), (21, mkF [.int .i64] [.int .i64] sign22F), (22, mkF [.int .i64] [.int .i64] within22F), (11, mkF [.st [.int .u64, .int .u64], .st [.int .u64, .int .u64], .st [.int .u64, .int .u64], .st [.int .u64, .int .u64]] [.int .i64, .int .i64] pdInCircleF), (18, mkF [.st [.int .u64, .int .u64], .st [.int .u64, .int .u64], .st [.int .u64, .int .u64]] [.bool, .int .i64] pdBetweenF), (16, mkF [.st [.int .u64, .int .u64], .st [.int .u64, .int .u64], .st [.int .u64, .int .u64], .st [.int .u64, .int .u64]] [.int .i64, .int .i64] pdNearerF), (23, mkF [.st [.int .i64, .int .i64], .st [.int .i64, .int .i64]] [.int .i64] far22F), (17, mkF [.st [.int .u64, .int .u64], .st [.int .u64, .int .u64]] [.int .i64, .int .i64] pdOrdF)]) (res := [2]) tab_ok hm ⟨at22_ok, pdOrient_ok, side22_ok, num22_ok, sign22_ok, within22_ok, pdInCircle_ok, pdBetween_ok, pdNearer_ok, far22_ok, pdOrd_ok, trivial⟩ Go.Proofs.Try.func6 (by kernel_rfl) (by kernel_rfl) (by kernel_rfl) (by kernel_rfl) (by kernel_rfl) ?_
  rintro a t h
  obtain ⟨k, hk⟩ := PredWhole_law h
  exact ⟨PredWhole_h, 3000, k, (PredWhole_ev k a).trans hk⟩

end Go.RX.S
