/- NatOrder, NatRing, NatSteps, NatBits: the laws' contracts. -/
import Derived.Test.YtandibmpaamfbaaUe
import Derived.Test.YtandibmpaamfbaaVa
set_option linter.unusedVariables false
set_option linter.unusedSimpArgs false
namespace Go.RX.S
open Go Go.RX

theorem nMulF_V {x y : List Int} (hx : V x) (hy : V y) : nMulF (x, y) = some (bnd (val x * val y)) := gu_pos ⟨hx, hy⟩
theorem nMulF_ok {x y : List Int} (hx : V x) (hy : V y) (h : val x * val y < Lim) : nMulF (x, y) = some (can (val x * val y), 0) := by rw [nMulF_V hx hy, bnd_ok h]
theorem mul_law {a b : List Int} {t : List Int × Bool} (h : mulF (a, b) = some t) : ∃ k : Nat, mul_b0 a b = some t := by
  obtain ⟨⟨ha, hb⟩, rfl⟩ := gu_eq.1 h
  refine ⟨0, ?_⟩
  rw [mul_b0, nMulF_V ha hb, Option.bind_some]
  unfold bnd okp
  dsimp only
  split <;> rfl

theorem nCmpF_can {u v : Nat} (hu : u < Lim) (hv : v < Lim) : nCmpF (can u, can v) = some (sgn u v) := by
  rw [nCmpF_ok (V_can hu) (V_can hv), val_can, val_can]
theorem lim60 {a : Nat} (h : a < 18446744073709551616 ^ 60) : a < Lim := lt_Lim h (by rw [lw_eq]; omega)
theorem mul_lt_pow {a b n m : Nat} (ha : a < 18446744073709551616 ^ n) (hb : b < 18446744073709551616 ^ m) : a * b < 18446744073709551616 ^ (n + m) := by
  rw [Nat.pow_add]
  exact Nat.mul_lt_mul'' ha hb
theorem add_lt_pow {a b n m : Nat} (ha : a < 18446744073709551616 ^ n) (hb : b < 18446744073709551616 ^ n) : a + b < 18446744073709551616 ^ (n + 1) := by
  rw [Nat.pow_succ]
  omega
theorem lim_of {a n : Nat} (h : a < 18446744073709551616 ^ n) (hn : n ≤ 4096) : a < Lim := lt_Lim h (by rw [lw_eq]; exact hn)
theorem sgn_add {a b c : Nat} : sgn (a + c) (b + c) = sgn a b := by
  unfold sgn
  have h1 : (a + c < b + c) ↔ a < b := by omega
  have h2 : (a + c = b + c) ↔ a = b := by omega
  simp only [h1, h2]
theorem sgn_mul {a b c : Nat} (h : c ≠ 0) : sgn (a * c) (b * c) = sgn a b := by
  unfold sgn
  have h1 : (a * c < b * c) ↔ a < b := Nat.mul_lt_mul_right (by omega)
  have h2 : (a * c = b * c) ↔ a = b := Nat.mul_left_inj h
  simp only [h1, h2]
theorem sgn_self (a : Nat) : sgn a a = 0 := by simp [sgn]
theorem sgn_lt {a b : Nat} (h : a < b) : sgn a b = -1 := if_pos h
theorem sgn_gt {a b : Nat} (h : b < a) : sgn a b = 1 := by
  unfold sgn
  rw [if_neg (by omega), if_neg (by omega)]
theorem sgn_le {a b : Nat} : sgn a b ≤ 0 ↔ a ≤ b := by
  unfold sgn
  split
  · omega
  · split <;> omega
theorem len_can_zero {v : Nat} : ((((can v).length : Nat) : Int) = 0) ↔ v = 0 := by
  rw [← can_nil, ← List.length_eq_zero_iff]
  omega

theorem NatOrder_law {a b c : List Int} {t : Bool} (h : NatOrderF (a, b, c) = some t) : ∃ k : Nat, NatOrder_b0 a b c = some t := by
  obtain ⟨⟨ha, hb, hc⟩, rfl⟩ := gu_eq.1 h
  dsimp only at *
  refine ⟨0, ?_⟩
  have hx := V_cut ha
  have hy := V_cut hb
  have hz := V_cut hc
  have hxl := val_cut ha
  have hyl := val_cut hb
  have hzl := val_cut hc
  rw [NatOrder_b0, cutF_ok ha, cutF_ok hb, cutF_ok hc]
  simp only [Option.bind_some]
  generalize a.take 60 = x at *
  generalize b.take 60 = y at *
  generalize c.take 60 = z at *
  have k1 : nCmpF ([], [0, 0]) = some 0 := nCmpF_ok (V_lit (by decide) (by decide)) (V_lit (by decide) (by decide))
  have k2 : nCmpF ([1], []) = some 1 := nCmpF_ok (V_lit (by decide) (by decide)) (V_lit (by decide) (by decide))
  have l1 := lim_of (add_lt_pow (m := 0) hxl hzl) (by omega)
  have l2 := lim_of (add_lt_pow (m := 0) hyl hzl) (by omega)
  have l3 := lim_of (mul_lt_pow hxl hzl) (by omega)
  have l4 := lim_of (mul_lt_pow hyl hzl) (by omega)
  simp only [k1, k2, nCmpF_ok hx hy, nCmpF_ok hy hx, nCmpF_ok hx hx, nCmpF_ok hy hz, nCmpF_ok hx hz, nNormF_ok hx, nNormF_ok hy, nNormF_ok hz, aliveF_ok, addF_ok hx hz l1, addF_ok hy hz l2, mulF_ok hx hz l3, mulF_ok hy hz l4, Option.bind_some, Bool.not_true, cond_f, decide_true, sameF_can (lim60 hxl), nCmpF_can l1 l2, nCmpF_can l3 l4, sgn_add, sgn_self, len_can_zero, sgn_le]
  generalize val x = X at *
  generalize val y = Y at *
  generalize val z = Z at *
  have fin : (bif decide (X ≤ Y) then bif decide (Y ≤ Z) then some (decide (X ≤ Z)) else some true else some true) = some true := by
    rw [cond_dec, cond_dec]
    split
    · split
      · rw [decide_eq_true (by omega)]
      · rfl
    · rfl
  rw [fin]
  have em : Z = 0 → sgn (X * Z) (Y * Z) = 0 := by
    rintro rfl
    rw [Nat.mul_zero, Nat.mul_zero, sgn_self]
  have en : Z ≠ 0 → sgn (X * Z) (Y * Z) = sgn X Y := fun h => sgn_mul h
  have last : (bif decide (Z = 0) then bif !decide (sgn (X * Z) (Y * Z) = 0) then some false else some true else bif !decide (sgn (X * Z) (Y * Z) = sgn X Y) then some false else some true) = some true := by
    rw [cond_dec]
    split
    · rename_i hz
      rw [em hz]
      rfl
    · rename_i hz
      rw [en hz, decide_eq_true rfl]
      rfl
  rw [last]
  rcases Nat.lt_trichotomy X Y with h | h | h
  · rw [sgn_lt h, sgn_gt h, decide_eq_false (show ¬ X = Y by omega)]
    rfl
  · subst h
    have e0 : decide (X = X) = true := decide_eq_true rfl
    rw [sgn_self, e0]
    rfl
  · rw [sgn_gt h, sgn_lt h, decide_eq_false (show ¬ X = Y by omega)]
    rfl

theorem normalF_can {v : Nat} (h : v < Lim) : normalF (can v) = some true := by
  rw [normalF, gu_pos (U_can h).2]
  refine congrArg some (@decide_eq_true _ (Classical.propDecidable _) ?_)
  by_cases c : v = 0
  · exact .inl (by rw [c, can_zero])
  · have hl : (can v).length ≠ 0 := fun e => c (can_nil.1 (List.length_eq_zero_iff.1 e))
    obtain ⟨n, hn⟩ : ∃ n, (can v).length = n + 1 := ⟨(can v).length - 1, by omega⟩
    have := can_top n v hn
    exact .inr (by rw [hn, Nat.add_sub_cancel]; exact this)
theorem can_cons_len {v : Nat} (h : v < 18446744073709551616) : (can v).length ≤ 1 := can_len (by rw [Nat.pow_one]; exact h)
theorem NatRing_law {a b c : List Int} {t : Bool} (h : NatRingF (a, b, c) = some t) : ∃ k : Nat, NatRing_b0 a b c = some t := by
  obtain ⟨⟨ha, hb, hc⟩, rfl⟩ := gu_eq.1 h
  dsimp only at *
  refine ⟨0, ?_⟩
  have hx := V_cut ha
  have hy := V_cut hb
  have hz := V_cut hc
  have hxl := val_cut ha
  have hyl := val_cut hb
  have hzl := val_cut hc
  rw [NatRing_b0, cutF_ok ha, cutF_ok hb, cutF_ok hc]
  simp only [Option.bind_some]
  generalize a.take 60 = x at *
  generalize b.take 60 = y at *
  generalize c.take 60 = z at *
  have p60 : 18446744073709551616 ^ 60 ≤ 18446744073709551616 ^ 61 := Nat.pow_le_pow_right (by omega) (by omega)
  have xy := add_lt_pow (m := 0) hxl hyl
  have yx := add_lt_pow (m := 0) hyl hxl
  have yz := add_lt_pow (m := 0) hyl hzl
  have xy_z := add_lt_pow (m := 0) xy (Nat.lt_of_lt_of_le hzl p60)
  have x_yz := add_lt_pow (m := 0) (Nat.lt_of_lt_of_le hxl p60) yz
  have mxy := mul_lt_pow hxl hyl
  have myx := mul_lt_pow hyl hxl
  have myz := mul_lt_pow hyl hzl
  have mxz := mul_lt_pow hxl hzl
  have mxy_z := mul_lt_pow mxy hzl
  have mx_yz := mul_lt_pow hxl myz
  have x_d := mul_lt_pow hxl yz
  have pv := add_lt_pow (m := 0) mxy mxz
  have one : V [1, 0] := V_lit (by decide) (by decide)
  have nil : V [] := V_lit (by decide) (by decide)
  have v1 : val [1, 0] = 1 := rfl
  have e1 := addF_ok hx hy (lim_of xy (by omega))
  have e2 := addF_ok hy hx (lim_of yx (by omega))
  have e3 := addF_ok (V_can (lim_of xy (by omega))) hz (by rw [val_can]; exact lim_of xy_z (by omega))
  have e4 := addF_ok hy hz (lim_of yz (by omega))
  have e5 := addF_ok hx (V_can (lim_of yz (by omega))) (by rw [val_can]; exact lim_of x_yz (by omega))
  have e6 := mulF_ok hx hy (lim_of mxy (by omega))
  have e7 := mulF_ok hy hx (lim_of myx (by omega))
  have e8 := mulF_ok (V_can (lim_of mxy (by omega))) hz (by rw [val_can]; exact lim_of mxy_z (by omega))
  have e9 := mulF_ok hy hz (lim_of myz (by omega))
  have e10 := mulF_ok hx (V_can (lim_of myz (by omega))) (by rw [val_can]; exact lim_of mx_yz (by omega))
  have e11 := mulF_ok hx (V_can (lim_of yz (by omega))) (by rw [val_can]; exact lim_of x_d (by omega))
  have e12 := mulF_ok hx hz (lim_of mxz (by omega))
  have e13 := addF_ok (V_can (lim_of mxy (by omega))) (V_can (lim_of mxz (by omega))) (by rw [val_can, val_can]; exact lim_of pv (by omega))
  have e14 := mulF_ok hx one (by rw [v1, Nat.mul_one]; exact lim60 hxl)
  have e15 := addF_ok hx nil (by rw [val_nil, Nat.add_zero]; exact lim60 hxl)
  rw [val_can] at e3 e5 e8 e10 e11
  rw [val_can, val_can] at e13
  rw [v1, Nat.mul_one] at e14
  rw [val_nil, Nat.add_zero] at e15
  have s1 := sameF_can (v := val y + val x) (lim_of xy (by omega))
  have s2 := sameF_can (v := val x + (val y + val z)) (lim_of xy_z (by omega))
  have s3 := normalF_can (lim_of xy_z (by omega))
  have s4 := sameF_can (v := val y * val x) (lim_of mxy (by omega))
  have s5 := sameF_can (v := val x * (val y * val z)) (lim_of mxy_z (by omega))
  have s6 := normalF_can (lim_of mxy_z (by omega))
  have s7 := sameF_can (v := val x * val y + val x * val z) (lim_of x_d (by omega))
  have s8 := sameF_can (v := val x) (lim60 hxl)
  rw [decide_eq_true (Nat.add_comm _ _)] at s1
  rw [decide_eq_true (Nat.add_assoc _ _ _)] at s2
  rw [decide_eq_true (Nat.mul_comm _ _)] at s4
  rw [decide_eq_true (Nat.mul_assoc _ _ _)] at s5
  rw [decide_eq_true (Nat.mul_add _ _ _)] at s7
  rw [decide_eq_true rfl] at s8
  simp only [aliveF_ok, e1, e2, e3, e4, e5, e6, e7, e8, e9, e10, e11, e12, e13, e14, e15, s1, s2, s3, s4, s5, s6, s7, s8, nNormF_ok hx, Option.bind_some, Bool.not_true, cond_f]
  match x, y, hx, hy with
  | [], _, _, _ => rfl
  | _ :: _, [], _, _ =>
    rw [cond_dec, if_neg (by simp only [List.length_cons]; omega)]
    rfl
  | p :: x, q :: y, hx, hy =>
    have hp : Wd p := (W64.cons.1 hx.1).1
    have hq : Wd q := (W64.cons.1 hy.1).1
    obtain ⟨pn, rfl, hpn⟩ := hp.nat
    obtain ⟨qn, rfl, hqn⟩ := hq.nat
    have i1 : inRange 0 (List.length ((pn : Int) :: x)) = true := inR (i := 0) (by simp)
    have i2 : inRange 0 (List.length ((qn : Int) :: y)) = true := inR (i := 0) (by simp)
    have d1 : decide ((1 : Int) ≤ ((List.length ((pn : Int) :: x) : Nat) : Int)) = true := by rw [decide_eq_true_eq, List.length_cons]; omega
    have d2 : decide ((1 : Int) ≤ ((List.length ((qn : Int) :: y) : Nat) : Int)) = true := by rw [decide_eq_true_eq, List.length_cons]; omega
    have r1 : rdI ((pn : Int) :: x) 0 = (pn : Int) := rfl
    have r2 : rdI ((qn : Int) :: y) 0 = (qn : Int) := rfl
    have hmb := mul_bound (a := pn) (y := qn) (s := 0) (c := 0) hpn hqn (by omega) (by omega)
    have V1 : ∀ {n : Nat}, n < 18446744073709551616 → V [(n : Int)] := fun h => ⟨by rw [W64.cons]; exact ⟨Wd.of h, W64.nil⟩, by simp⟩
    have t1 : List.take 1 ((pn : Int) :: x) = [(pn : Int)] := rfl
    have t2 : List.take 1 ((qn : Int) :: y) = [(qn : Int)] := rfl
    have w1 : val [(pn : Int)] = pn := by rw [val_one, Int.toNat_natCast]
    have w2 : val [(qn : Int)] = qn := by rw [val_one, Int.toNat_natCast]
    have f1 := nMulF_ok (V1 hpn) (V1 hqn) (by rw [w1, w2]; exact small_Lim (by omega))
    have f2 := nAddF_ok (V1 hpn) (V1 hqn) (by rw [w1, w2]; exact small_Lim (by omega))
    rw [w1, w2] at f1 f2
    have V2 : ∀ {m n : Nat}, m < 18446744073709551616 → n < 18446744073709551616 → V [(m : Int), (n : Int)] := fun h h' => ⟨by rw [W64.cons, W64.cons]; exact ⟨Wd.of h, Wd.of h', W64.nil⟩, by simp⟩
    have hlo : pn * qn % 18446744073709551616 < 18446744073709551616 := Nat.mod_lt _ (by omega)
    have hhi : pn * qn / 18446744073709551616 < 18446744073709551616 := by
      generalize pn * qn = g at *
      omega
    have g1 := nNormF_ok (V2 hlo hhi)
    have g2 := nNormF_ok (V2 (show (pn + qn) % 18446744073709551616 < 18446744073709551616 from Nat.mod_lt _ (by omega)) (show (pn + qn) / 18446744073709551616 < 18446744073709551616 by omega))
    have u1 : val [((pn * qn % 18446744073709551616 : Nat) : Int), ((pn * qn / 18446744073709551616 : Nat) : Int)] = pn * qn := by
      rw [val_cons, val_one, Int.toNat_natCast, Int.toNat_natCast]
      omega
    have u2 : val [(((pn + qn) % 18446744073709551616 : Nat) : Int), (((pn + qn) / 18446744073709551616 : Nat) : Int)] = pn + qn := by
      rw [val_cons, val_one, Int.toNat_natCast, Int.toNat_natCast]
      omega
    rw [u1] at g1
    rw [u2] at g2
    have h1 := sameF_can (u := pn * qn) (v := pn * qn) (small_Lim (by omega))
    have h2 := sameF_can (u := pn + qn) (v := pn + qn) (small_Lim (by omega))
    rw [decide_eq_true rfl] at h1 h2
    rw [cond_dec, if_neg (by simp only [List.length_cons]; omega), cond_dec, if_neg (by simp only [List.length_cons]; omega)]
    simp only [i1, i2, d1, d2, r1, r2, cond_t, t1, t2, f1, f2, wMulF_ok hpn hqn, wAddF_nat hpn hqn, Option.bind_some, decide_true, g1, g2, h1, h2]

theorem nShlF_ok {x : List Int} (hx : V x) {n : Nat} (h : blen (val x) + n ≤ 262144) : nShlF (x, (n : Int)) = some (can (val x * 2 ^ n), 0) := by
  have hn : (n : Int) ≤ 9223372036854775807 := by omega
  rw [nShlF, gu_pos ⟨hx, hn⟩]
  dsimp only
  rw [if_neg (by omega), Int.toNat_natCast]
  by_cases c : val x = 0
  · rw [if_pos c, c, Nat.zero_mul, can_zero]
  · rw [if_neg c, if_pos h]
theorem nShrF_ok {x : List Int} (hx : V x) {n : Nat} (hn : n ≤ 9223372036854775807) (h : blen (val x) ≤ 262144) : nShrF (x, (n : Int)) = some (can (val x / 2 ^ n), decide (val x % 2 ^ n ≠ 0), 0) := by
  have hn' : (n : Int) ≤ 9223372036854775807 := by omega
  rw [nShrF, gu_pos ⟨hx, hn'⟩]
  dsimp only
  rw [if_neg (by omega), Int.toNat_natCast]
  by_cases c : ((blen (val x) : Nat) : Int) ≤ (n : Int)
  · have hlt := (blen_le_iff n (val x)).1 (by omega)
    rw [if_pos c, Nat.div_eq_of_lt hlt, Nat.mod_eq_of_lt hlt, can_zero]
    congr 3
    by_cases c2 : val x = 0
    · simp [c2]
    · have : 0 < val x := by omega
      simp [c2, this]
  · rw [if_neg c, if_neg (by omega)]
theorem intoF_ok {n : Int} (h : I64 n) : ∃ m : Nat, m < 400 ∧ intoF (n, 400) = some (m : Int) := by
  refine ⟨(n % 400).toNat, by omega, ?_⟩
  rw [intoF, gu_pos ⟨by omega, by omega, h.1, h.2⟩]
  dsimp only
  congr 1
  omega
theorem blen_mul_pow {v K : Nat} (k : Nat) (h : blen v ≤ K) : blen (v * 2 ^ k) ≤ K + k := by
  rw [blen_le_iff, Nat.pow_add]
  exact Nat.mul_lt_mul_of_pos_right ((blen_le_iff _ _).1 h) (Nat.pow_pos (by omega))
theorem blen_mono {v w K : Nat} (h : w ≤ v) (h' : blen v ≤ K) : blen w ≤ K := by
  rw [blen_le_iff] at *
  omega
theorem blen_pow_lt {i K : Nat} (h : i < K) : blen (2 ^ i) ≤ K := (blen_le_iff _ _).2 (Nat.pow_lt_pow_right (by omega) h)
theorem pow_pos2 (n : Nat) : 0 < 2 ^ n := Nat.pow_pos (by omega)
theorem NatSteps_law {a : List Int} {b c : Int} {t : Bool} (h : NatStepsF (a, b, c) = some t) : ∃ k : Nat, NatSteps_b0 a b c = some t := by
  obtain ⟨⟨ha, hb, hc⟩, rfl⟩ := gu_eq.1 h
  dsimp only at *
  refine ⟨0, ?_⟩
  have hx := V_cut ha
  have hxl := val_cut ha
  rw [NatSteps_b0, cutF_ok ha]
  simp only [Option.bind_some]
  generalize a.take 60 = x at *
  obtain ⟨n, hn, en⟩ := intoF_ok hb
  obtain ⟨m, hm, em⟩ := intoF_ok hc
  have hbl : blen (val x) ≤ 3840 := by
    rw [pow64] at hxl
    have := (blen_le_iff (64 * 60) (val x)).2 hxl
    omega
  have one : V [1] := V_lit (by decide) (by decide)
  have v1 : val [1] = 1 := rfl
  have b1 : blen 1 = 1 := blen_unique (by omega) (.inr (by omega))
  have blm : ∀ {v k : Nat}, blen v ≤ 4000 + k → k ≤ 1000 → v < Lim := fun h h' => lt_Lim_blen.2 (by omega)
  have bln : ∀ (v k : Nat), blen v ≤ 4000 → blen (v * 2 ^ k) ≤ 4000 + k := fun v k h => blen_mul_pow k h
  have bld : ∀ (v w : Nat), w ≤ v → blen v ≤ 4000 → blen w ≤ 4000 := fun v w h h' => blen_mono h h'
  have hb4 : blen (val x) ≤ 4000 := by omega
  have hXn := bln (val x) n hb4
  have lXn := blm hXn (by omega)
  have eadd : addI .i64 (n : Int) (m : Int) = ((n + m : Nat) : Int) := by
    rw [addI_i64 (by omega)]
    omega
  have f1 := nShlF_ok hx (n := n) (by omega)
  have f2 := nShlF_ok (V_can lXn) (n := m) (by rw [val_can]; omega)
  have f3 := nShlF_ok hx (n := n + m) (by omega)
  have f4 := nShlF_ok one (n := n) (by rw [v1, b1]; omega)
  rw [val_can, Nat.mul_assoc, ← Nat.pow_add] at f2
  rw [v1, Nat.one_mul] at f4
  have lp : 2 ^ n < Lim := lt_Lim_blen.2 (blen_pow_lt (by omega))
  have f5 := nMulF_ok hx (V_can lp) (by rw [val_can]; exact lXn)
  rw [val_can] at f5
  have hXnm := bln (val x) (n + m) hb4
  have lXnm := blm hXnm (by omega)
  have s1 := sameF_can (u := val x * 2 ^ (n + m)) (v := val x * 2 ^ (n + m)) lXnm
  have s2 := sameF_can (u := val x * 2 ^ n) (v := val x * 2 ^ n) lXn
  rw [decide_eq_true rfl] at s1 s2
  have g1 := nShrF_ok (V_can lXn) (n := n) (by omega) (by rw [val_can]; omega)
  rw [val_can, Nat.mul_div_cancel _ (pow_pos2 n), Nat.mul_mod_left] at g1
  have g2 := nShrF_ok hx (n := n) (by omega) (by omega)
  have hd : blen (val x / 2 ^ n) ≤ 4000 := bld _ _ (Nat.div_le_self _ _) hb4
  have ld := blm (k := 0) hd (by omega)
  have g3 := nShrF_ok (V_can ld) (n := m) (by omega) (by rw [val_can]; omega)
  rw [val_can, Nat.div_div_eq_div_mul, ← Nat.pow_add] at g3
  have g4 := nShrF_ok hx (n := n + m) (by omega) (by omega)
  have s3 := sameF_can (u := val x) (v := val x) (lim60 hxl)
  have ld2 : val x / 2 ^ (n + m) < Lim := Nat.lt_of_le_of_lt (Nat.div_le_self _ _) (lim60 hxl)
  have s4 := sameF_can (u := val x / 2 ^ (n + m)) (v := val x / 2 ^ (n + m)) ld2
  rw [decide_eq_true rfl] at s3 s4
  have h1 := nShlF_ok (V_can ld) (n := n) (by rw [val_can]; omega)
  rw [val_can] at h1
  have hle : val x / 2 ^ n * 2 ^ n ≤ val x := Nat.div_mul_le_self _ _
  have hl2 : val x / 2 ^ n * 2 ^ n < Lim := Nat.lt_of_le_of_lt hle (lim60 hxl)
  have h2 := nSubF_ok hx (V_can hl2) (by rw [val_can]; exact hle) (lim60 hxl)
  have hdm := Nat.div_add_mod (val x) (2 ^ n)
  rw [Nat.mul_comm] at hdm
  rw [val_can, show val x - val x / 2 ^ n * 2 ^ n = val x % 2 ^ n from by omega] at h2
  have hml : val x % 2 ^ n < 2 ^ n := Nat.mod_lt _ (pow_pos2 n)
  have h3 := nCmpF_can (Nat.lt_trans hml lp) lp
  rw [sgn_lt hml] at h3
  simp only [en, em, eadd, f1, f2, f3, f4, f5, s1, s2, g1, g2, g3, g4, s3, s4, h1, h2, h3, aliveF_ok, nNormF_ok hx, Option.bind_some, Bool.not_true, cond_f, decide_true]
  have key : val x % 2 ^ (n + m) = val x % 2 ^ n + 2 ^ n * (val x / 2 ^ n % 2 ^ m) := by
    rw [Nat.pow_add, Nat.mod_mul]
  have hlen : ((((can (val x % 2 ^ n)).length : Nat) : Int) > 0) ↔ val x % 2 ^ n ≠ 0 := by
    have := len_can_zero (v := val x % 2 ^ n)
    omega
  have hp := pow_pos2 n
  rw [key]
  simp only [hlen]
  generalize val x % 2 ^ n = r at *
  generalize val x / 2 ^ n % 2 ^ m = q at *
  have hpq : q ≠ 0 → 2 ^ n * q ≠ 0 := fun h => by
    have := Nat.mul_pos hp (Nat.pos_of_ne_zero h)
    omega
  by_cases c1 : r = 0
  · subst c1
    by_cases c2 : q = 0
    · subst c2
      simp
    · simp [c2, hpq c2]
  · have : r + 2 ^ n * q ≠ 0 := by omega
    simp [c1, this]

/-! ### bits -/
theorem nBitF_ok {x : List Int} (hx : V x) {i : Nat} (h : i ≤ 9223372036854775807) : nBitF (x, (i : Int)) = some ((val x / 2 ^ i % 2 : Nat) : Int) := by
  have h' : (i : Int) ≤ 9223372036854775807 := by omega
  rw [nBitF, gu_pos ⟨hx, h'⟩]
  dsimp only
  rw [if_neg (by omega), Int.toNat_natCast]
theorem mod_succ_pow (v i : Nat) : v % 2 ^ (i + 1) = v % 2 ^ i + 2 ^ i * (v / 2 ^ i % 2) := by
  rw [Nat.pow_succ, Nat.mod_mul]
theorem blen_top2 {r i : Nat} (h : r < 2 ^ i) : blen (r + 2 ^ i) = i + 1 := blen_unique (by rw [Nat.pow_succ]; omega) (.inr (by simp))
theorem NatBits_loop {x : List Int} (hx : V x) (hl : x.length ≤ 6) : ∀ (n i k : Nat) (f l : Int), i + n = 64 * x.length + 70 → n + 1 ≤ k → f = (if val x % 2 ^ i = 0 then -1 else (tz (val x) : Int)) → l = (blen (val x % 2 ^ i) : Int) - 1 → NatBits_L18 k x (can (val x % 2 ^ i)) f l (i : Int) = some true
  | n, i, 0, f, l, _, hk, _, _ => by omega
  | 0, i, k + 1, f, l, hi, hk, hf, hlst => by
    have hxl : val x < 2 ^ i := by
      have := val_lt hx.1
      rw [pow64] at this
      exact Nat.lt_of_lt_of_le this (Nat.pow_le_pow_right (by omega) (by omega))
    have hlim : val x < Lim := lt_Lim_blen.2 (by have := (blen_le_iff i _).2 hxl; omega)
    rw [Nat.mod_eq_of_lt hxl] at hf hlst ⊢
    have hbl := (blen_le_iff i _).2 hxl
    have em : mulI .i64 64 ((x.length : Nat) : Int) = ((64 * x.length : Nat) : Int) := by
      rw [mulI_i64 (by omega)]
      omega
    have s := sameF_can (u := val x) (v := val x) hlim
    rw [decide_eq_true rfl] at s
    have e1 : addI .i64 l 1 = ((blen (val x) : Nat) : Int) := by
      rw [addI_i64 (by omega)]
      omega
    have e2 : maxI 0 f = ((tz (val x) : Nat) : Int) := by
      unfold maxI
      rw [hf]
      by_cases c : val x = 0
      · rw [if_pos c, c, tz_zero]
        rfl
      · rw [if_neg c]
        split
        · rfl
        · omega
    have e3 : nBitF (x, -1) = some 0 := by
      have h' : (-1 : Int) ≤ 9223372036854775807 := by omega
      rw [nBitF, gu_pos ⟨hx, h'⟩]
      rfl
    rw [NatBits_L18, NatBits_b18, em, addI_i64 (by omega), cond_dec, if_neg (by omega), nNormF_ok hx, Option.bind_some, s, Option.bind_some, cond_t, nBitsF_ok hx, Option.bind_some, e1, nZerosF_ok hx, Option.bind_some, e2, e3, Option.bind_some]
    simp
  | n + 1, i, k + 1, f, l, hi, hk, hf, hlst => by
    have em : mulI .i64 64 ((x.length : Nat) : Int) = ((64 * x.length : Nat) : Int) := by
      rw [mulI_i64 (by omega)]
      omega
    have hml : val x % 2 ^ i < 2 ^ i := Nat.mod_lt _ (pow_pos2 i)
    rw [NatBits_L18, NatBits_b18, em, addI_i64 (by omega), cond_dec, if_pos (by omega), nBitF_ok hx (by omega), Option.bind_some, inc (by omega), cond_dec]
    have hs := mod_succ_pow (val x) i
    rcases Nat.mod_two_eq_zero_or_one (val x / 2 ^ i) with hb | hb
    · rw [hb, Nat.mul_zero, Nat.add_zero] at hs
      rw [hb, if_pos (show ((0 : Nat) : Int) = 0 from rfl)]
      have := NatBits_loop hx hl n (i + 1) k f l (by omega) (by omega) (by rw [hs]; exact hf) (by rw [hs]; exact hlst)
      rw [hs] at this
      exact this
    · rw [hb, Nat.mul_one] at hs
      have one : V [1] := V_lit (by decide) (by decide)
      have v1 : val [1] = 1 := rfl
      have b1 : blen 1 = 1 := blen_unique (by omega) (.inr (by omega))
      have f4 := nShlF_ok one (n := i) (by rw [v1, b1]; omega)
      rw [v1, Nat.one_mul] at f4
      have lp : 2 ^ i < Lim := lt_Lim_blen.2 (blen_pow_lt (by omega))
      have ls : val x % 2 ^ i + 2 ^ i < Lim := lt_Lim_blen.2 (by rw [blen_top2 hml]; omega)
      have f5 := addF_ok (V_can (Nat.lt_trans hml lp)) (V_can lp) (by rw [val_can, val_can]; exact ls)
      rw [val_can, val_can] at f5
      have hne : val x ≠ 0 := by
        intro e
        rw [e, Nat.zero_div] at hb
        omega
      have htz1 : tz (val x) < i + 1 := (tz_lt_iff (i + 1) _ hne).2 (by rw [hs]; have := pow_pos2 i; omega)
      have ih := fun f' hf' => NatBits_loop hx hl n (i + 1) k f' (i : Int) (by omega) (by omega) hf' (by rw [hs, blen_top2 hml]; omega)
      rw [hs] at ih
      rw [hb, if_neg (by omega), cond_dec, if_pos (by omega), f4, Option.bind_some]
      dsimp only
      rw [f5, Option.bind_some]
      simp only [decide_true, Bool.not_true, cond_f]
      rw [cond_dec]
      have hne2 : ¬ val x % 2 ^ i + 2 ^ i = 0 := by have := pow_pos2 i; omega
      by_cases c : val x % 2 ^ i = 0
      · rw [if_pos c] at hf
        have htz2 : ¬ tz (val x) < i := fun h => (tz_lt_iff i _ hne).1 h c
        rw [if_pos (by omega)]
        refine ih _ ?_
        rw [if_neg hne2]
        omega
      · rw [if_neg c] at hf
        rw [if_neg (by omega)]
        refine ih _ ?_
        rw [if_neg hne2]
        exact hf
theorem NatBits_law {a : List Int} {t : Bool} (h : NatBitsF a = some t) : ∃ k : Nat, NatBits_b0 (NatBits_L18 k) a = some t := by
  obtain ⟨ha, rfl⟩ := gu_eq.1 h
  have key : ∀ x : List Int, V x → x.length ≤ 6 → NatBits_L18 (64 * 6 + 70 + 1) x [] (-1) (-1) 0 = some true := by
    intro x hx hl
    have := NatBits_loop hx hl (64 * x.length + 70) 0 (64 * 6 + 70 + 1) (-1) (-1) (by omega) (by omega) (by rw [Nat.pow_zero, Nat.mod_one]; rfl) (by rw [Nat.pow_zero, Nat.mod_one]; rfl)
    rw [Nat.pow_zero, Nat.mod_one, can_zero] at this
    exact this
  refine ⟨64 * 6 + 70 + 1, ?_⟩
  have hx := V_cut ha
  rw [NatBits_b0, cutF_ok ha]
  simp only [Option.bind_some, aliveF_ok, Bool.not_true, cond_f]
  generalize a.take 60 = x at *
  rw [cond_dec]
  by_cases c : x.length > 6
  · rw [if_pos (by omega), cond_dec, if_pos (by omega)]
    exact key _ ⟨hx.1.take 6, by rw [List.length_take]; omega⟩ (by rw [List.length_take]; omega)
  · rw [if_neg (by omega)]
    exact key x hx (by omega)
theorem mul_ok : CtrOk Go.Proofs.Try.prog 36 (mkF [.sl (.int .u64), .sl (.int .u64)] [.sl (.int .u64), .bool] mulF) := by
  refine mkF_ok (c := bodyOf Go.Proofs.Try.f36) (tab := S.tab) (cts := [(38, mkF [.sl (.int .u64), .sl (.int .u64)] [.sl (.int .u64), .int .i64] nMulF)]) (res := [4, 5]) tab_ok hm ⟨nMul_ok, trivial⟩ Go.Proofs.Try.func36 (by kernel_rfl) (by kernel_rfl) (by kernel_rfl) (by kernel_rfl) (by kernel_rfl) ?_
  rintro ⟨a, b⟩ t h
  obtain ⟨k, hk⟩ := mul_law h
  exact ⟨mul_h, 3000, k, (mul_ev k a b).trans hk⟩

theorem NatOrder_ok : CtrOk Go.Proofs.Try.prog 8 (mkF [.sl (.int .u64), .sl (.int .u64), .sl (.int .u64)] [.bool] NatOrderF) := by
  refine mkF_ok (c := bodyOf Go.Proofs.Try.f8) (tab := S.tab) (cts := [(27, mkF [.sl (.int .u64)] [.sl (.int .u64)] cutF), (29, mkF [] [.bool] aliveF), (33, mkF [.sl (.int .u64), .sl (.int .u64)] [.int .i64] nCmpF), (31, mkF [.sl (.int .u64), .sl (.int .u64)] [.bool] sameF), (32, mkF [.sl (.int .u64)] [.sl (.int .u64)] nNormF), (28, mkF [.sl (.int .u64), .sl (.int .u64)] [.sl (.int .u64), .bool] addF), (36, mkF [.sl (.int .u64), .sl (.int .u64)] [.sl (.int .u64), .bool] mulF)]) (res := [6]) tab_ok hm ⟨cut_ok, alive_ok, nCmp_ok, same_ok, nNormZ_ok, add_ok, mul_ok, trivial⟩ Go.Proofs.Try.func8 (by kernel_rfl) (by kernel_rfl) (by kernel_rfl) (by kernel_rfl) (by kernel_rfl) ?_
  rintro ⟨a, b, c⟩ t h
  obtain ⟨k, hk⟩ := NatOrder_law h
  exact ⟨NatOrder_h, 3000, k, (NatOrder_ev k a b c).trans hk⟩

theorem NatRing_ok : CtrOk Go.Proofs.Try.prog 4 (mkF [.sl (.int .u64), .sl (.int .u64), .sl (.int .u64)] [.bool] NatRingF) := by
  refine mkF_ok (c := bodyOf Go.Proofs.Try.f4) (tab := S.tab) (cts := [(27, mkF [.sl (.int .u64)] [.sl (.int .u64)] cutF), (29, mkF [] [.bool] aliveF), (28, mkF [.sl (.int .u64), .sl (.int .u64)] [.sl (.int .u64), .bool] addF), (31, mkF [.sl (.int .u64), .sl (.int .u64)] [.bool] sameF), (35, mkF [.sl (.int .u64)] [.bool] normalF), (36, mkF [.sl (.int .u64), .sl (.int .u64)] [.sl (.int .u64), .bool] mulF), (32, mkF [.sl (.int .u64)] [.sl (.int .u64)] nNormF), (37, mkF [.int .u64, .int .u64] [.int .u64, .int .u64] wMulF), (38, mkF [.sl (.int .u64), .sl (.int .u64)] [.sl (.int .u64), .int .i64] nMulF), (39, mkF [.int .u64, .int .u64, .int .u64] [.int .u64, .int .u64] wAddF), (40, mkF [.sl (.int .u64), .sl (.int .u64)] [.sl (.int .u64), .int .i64] nAddF)]) (res := [6]) tab_ok hm ⟨cut_ok, alive_ok, add_ok, same_ok, normal_ok, mul_ok, nNormZ_ok, wMul_ok, nMul_ok, wAdd_ok, nAdd_ok, trivial⟩ Go.Proofs.Try.func4 (by kernel_rfl) (by kernel_rfl) (by kernel_rfl) (by kernel_rfl) (by kernel_rfl) ?_
  rintro ⟨a, b, c⟩ t h
  obtain ⟨k, hk⟩ := NatRing_law h
  exact ⟨NatRing_h, 3000, k, (NatRing_ev k a b c).trans hk⟩

theorem NatSteps_ok : CtrOk Go.Proofs.Try.prog 10 (mkF [.sl (.int .u64), .int .i64, .int .i64] [.bool] NatStepsF) := by
  refine mkF_ok (c := bodyOf Go.Proofs.Try.f10) (tab := S.tab) (cts := [(27, mkF [.sl (.int .u64)] [.sl (.int .u64)] cutF), (68, mkF [.int .i64, .int .i64] [.int .i64] intoF), (42, mkF [.sl (.int .u64), .int .i64] [.sl (.int .u64), .int .i64] nShlF), (38, mkF [.sl (.int .u64), .sl (.int .u64)] [.sl (.int .u64), .int .i64] nMulF), (29, mkF [] [.bool] aliveF), (31, mkF [.sl (.int .u64), .sl (.int .u64)] [.bool] sameF), (52, mkF [.sl (.int .u64), .int .i64] [.sl (.int .u64), .bool, .int .i64] nShrF), (32, mkF [.sl (.int .u64)] [.sl (.int .u64)] nNormF), (30, mkF [.sl (.int .u64), .sl (.int .u64)] [.sl (.int .u64), .int .i64] nSubF), (33, mkF [.sl (.int .u64), .sl (.int .u64)] [.int .i64] nCmpF)]) (res := [6]) tab_ok hm ⟨cut_ok, into_ok, nShl_ok, nMul_ok, alive_ok, same_ok, nShr_ok, nNormZ_ok, nSub_ok, nCmp_ok, trivial⟩ Go.Proofs.Try.func10 (by kernel_rfl) (by kernel_rfl) (by kernel_rfl) (by kernel_rfl) (by kernel_rfl) ?_
  rintro ⟨a, b, c⟩ t h
  obtain ⟨k, hk⟩ := NatSteps_law h
  exact ⟨NatSteps_h, 3000, k, (NatSteps_ev k a b c).trans hk⟩

theorem NatBits_ok : CtrOk Go.Proofs.Try.prog 5 (mkF [.sl (.int .u64)] [.bool] NatBitsF) := by
  refine mkF_ok (c := bodyOf Go.Proofs.Try.f5) (tab := S.tab) (cts := [(27, mkF [.sl (.int .u64)] [.sl (.int .u64)] cutF), (29, mkF [] [.bool] aliveF), (41, mkF [.sl (.int .u64), .int .i64] [.int .i64] nBitF), (42, mkF [.sl (.int .u64), .int .i64] [.sl (.int .u64), .int .i64] nShlF), (28, mkF [.sl (.int .u64), .sl (.int .u64)] [.sl (.int .u64), .bool] addF), (31, mkF [.sl (.int .u64), .sl (.int .u64)] [.bool] sameF), (32, mkF [.sl (.int .u64)] [.sl (.int .u64)] nNormF), (43, mkF [.sl (.int .u64)] [.int .i64] nBitsF), (44, mkF [.sl (.int .u64)] [.int .i64] nZerosF)]) (res := [2]) tab_ok hm ⟨cut_ok, alive_ok, nBit_ok, nShl_ok, add_ok, same_ok, nNormZ_ok, nBits_ok, nZeros_ok, trivial⟩ Go.Proofs.Try.func5 (by kernel_rfl) (by kernel_rfl) (by kernel_rfl) (by kernel_rfl) (by kernel_rfl) ?_
  rintro a t h
  obtain ⟨k, hk⟩ := NatBits_law h
  exact ⟨NatBits_h, 3000, k, (NatBits_ev k a).trans hk⟩

end Go.RX.S
