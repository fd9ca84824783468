/- plumbref08; plumblaw08. -/
import Derived.Test.YtandibmpaamfbaaWo
set_option linter.unusedVariables false
set_option linter.unusedSimpArgs false
namespace Go.RX.S
open Go Go.RX

/-! ### plumbref08 -/
theorem inT_iff (e : Int) : decide (inT e) = (bif decide (e ≥ -348) then decide (e ≤ 347) else false) := by
  rw [cond_dec]
  by_cases c : e ≥ -348
  · rw [if_pos c, Bool.eq_iff_iff, decide_eq_true_eq, decide_eq_true_eq]
    exact ⟨fun h => h.2, fun h => ⟨c, h⟩⟩
  · rw [if_neg c, decide_eq_false (fun h => c h.1)]
theorem in4_law {a : Int} {t : Bool} (h : in4F a = some t) : ∃ k : Nat, in4_b0 a = some t := by
  obtain ⟨ha, rfl⟩ := gu_eq.1 h
  refine ⟨0, ?_⟩
  rw [inT_iff, in4_b0]
  cases decide (a ≥ -348) <;> rfl
theorem in8_law {a : Int} {t : Bool} (h : in4F a = some t) : ∃ k : Nat, in8_b0 a = some t := by
  obtain ⟨ha, rfl⟩ := gu_eq.1 h
  refine ⟨0, ?_⟩
  rw [inT_iff, in8_b0]
  cases decide (a ≥ -348) <;> rfl
theorem Power4_five {n : Nat} (h : n ≤ 2000) : Power4F (5, (n : Int)) = some (can (5 ^ n)) := by
  rw [Power4F, gu_pos ⟨by show (0 : Int) < 5; omega, by show (5 : Int) < _; omega, by show (0 : Int) ≤ (n : Int); omega, by show (n : Int) ≤ _; omega⟩]
  rfl
theorem lim_can {v : Nat} (h : v < Lim) : (can v).length ≤ 4096 := lim_len.2 h
theorem r3Shl_ok' {x : List Int} (hx : V x) {n : Nat} (hn : n ≤ 100000) (hl : x.length ≤ 100000) : r3ShlF (x, (n : Int)) = some (can (val x * 2 ^ n)) := by
  rw [r3ShlF, gu_pos ⟨hx, by show (0 : Int) ≤ (n : Int); omega, by show (n : Int) ≤ _; omega, by show (n : Int).toNat / 64 + x.length + 1 ≤ _; rw [Int.toNat_natCast]; omega⟩, Int.toNat_natCast]
theorem frame_law {a : Int} {t : List Int × Int} (h : frameF a = some t) : ∃ k : Nat, frame_b0 a = some t := by
  obtain ⟨ha, rfl⟩ := gu_eq.1 h
  refine ⟨0, ?_⟩
  have F := fact ha
  have h0 : -348 ≤ a := ha.1
  have h1 : a ≤ 347 := ha.2
  rw [frame_b0, cond_dec]
  by_cases c : a ≥ 0
  · have hm : mant a = if blen (5 ^ a.toNat) ≤ 128 then 5 ^ a.toNat * 2 ^ (128 - blen (5 ^ a.toNat)) else 5 ^ a.toNat / 2 ^ (blen (5 ^ a.toNat) - 128) := by rw [mant, if_pos c]
    have hf : frm a = (blen (5 ^ a.toNat) : Int) - 128 := by rw [frm, if_pos c]
    rw [if_pos c, hf]
    obtain ⟨n, rfl⟩ := Int.eq_ofNat_of_zero_le c
    try simp only [Int.ofNat_eq_natCast] at *
    rw [Int.toNat_natCast] at *
    have hn : n ≤ 2000 := by omega
    have hV := V_can (five_Lim hn)
    have hl := lim_can (five_Lim hn)
    have hL := blen5_le hn
    have h5 : r3BitsF (can (5 ^ n)) = some (blen (val (can (5 ^ n))) : Int) := gu_pos hV
    rw [val_can] at h5
    generalize hB : blen (5 ^ n) = B at *
    have e1 : subI .i64 (B : Int) 128 = (B : Int) - 128 := subI_i64 (by omega)
    rw [Power4_five hn, Option.bind_some, h5, Option.bind_some, e1, cond_dec]
    by_cases c : B ≤ 128
    · rw [if_pos c] at hm
      have hs := r3Shl_ok' hV (n := 128 - B) (by omega) (by omega)
      have e2 : subI .i64 0 ((B : Int) - 128) = ((128 - B : Nat) : Int) := by rw [subI_i64 (by omega)]; omega
      rw [val_can, ← hm] at hs
      rw [if_pos (by omega), e2, hs, Option.bind_some]
    · rw [if_neg c] at hm
      have hs := r3Shl_ok' V_1 (n := B - 128) (by omega) (by decide)
      rw [val_1, Nat.one_mul] at hs
      have e2 : (B : Int) - 128 = ((B - 128 : Nat) : Int) := by omega
      have h2 : 2 ^ (B - 128) < Lim := two_Lim (by omega)
      have hl2 := lim_can h2
      have hd := r3DivModF_ok (x := can (5 ^ n)) (y := can (2 ^ (B - 128))) ⟨can_ok _, by omega⟩ ⟨can_ok _, by omega⟩
      rw [val_can, val_can, ← hm, if_neg (two_ne _)] at hd
      rw [if_neg (by omega), e2, hs, Option.bind_some, hd, Option.bind_some]
  · have hm : mant a = 2 ^ (blen (5 ^ (-a).toNat) + 127) / 5 ^ (-a).toNat := by rw [mant, if_neg (by omega)]
    have hf : frm a = -((blen (5 ^ (-a).toNat) : Int) + 127) := by rw [frm, if_neg (by omega)]
    obtain ⟨n, hna⟩ := Int.eq_ofNat_of_zero_le (show 0 ≤ -a by omega)
    have hn : n ≤ 2000 := by clear hm hf; omega
    rw [hna, Int.toNat_natCast] at hm hf
    rw [if_neg c, hf]
    have hV := V_can (five_Lim hn)
    have hl := lim_can (five_Lim hn)
    have hL := blen5_le hn
    have h5 : r3BitsF (can (5 ^ n)) = some (blen (val (can (5 ^ n))) : Int) := gu_pos hV
    rw [val_can] at h5
    generalize hB : blen (5 ^ n) = B at *
    have e0 : subI .i64 0 a = (n : Int) := by rw [subI_i64 (by omega)]; omega
    have e1 : addI .i64 (B : Int) 127 = ((B + 127 : Nat) : Int) := by rw [addI_i64 (by clear hm; omega)]; clear hm; omega
    have e2 : subI .i64 0 ((B + 127 : Nat) : Int) = -((B : Int) + 127) := by rw [subI_i64 (by clear hm; omega)]; clear hm; omega
    have hs := r3Shl_ok' V_1 (n := B + 127) (by clear hm; omega) (by decide)
    rw [val_1, Nat.one_mul] at hs
    have h2 : 2 ^ (B + 127) < Lim := two_Lim (by clear hm; omega)
    have hl2 := lim_can h2
    have hd := r3DivModF_ok (x := can (2 ^ (B + 127))) (y := can (5 ^ n)) ⟨can_ok _, by clear hm; omega⟩ ⟨can_ok _, by clear hm; omega⟩
    rw [val_can, val_can, ← hm, if_neg (Nat.pos_iff_ne_zero.1 (Nat.pow_pos (show 0 < 5 by decide)))] at hd
    rw [e0, Power4_five hn, Option.bind_some, h5, Option.bind_some, e1, e2, hs, Option.bind_some, hd, Option.bind_some]
theorem in4F_ok {e : Int} (h : I64 e) : in4F e = some (decide (inT e)) := gu_pos h
theorem frameF_ok {e : Int} (h : inT e) : frameF e = some (can (mant e), frm e) := gu_pos h
theorem mant_two {e : Int} (h : inT e) : can (mant e) = [loW (mant e), hiW (mant e)] := by
  have := (fact h).lo
  have := (fact h).hi
  exact can_two (by omega) (by omega)
theorem mant_two' {e : Int} (h : inT e) : can (mant e + 1) = [loW (mant e + 1), hiW (mant e + 1)] := by
  have := (fact h).lo
  have := (fact h).hi
  exact can_two (by omega) (by omega)
theorem rFive_law {a : Int} {t : Int × Int × Int × Int} (h : pFiveF a = some t) : ∃ k : Nat, rFive_b0 a = some t := by
  obtain ⟨ha, rfl⟩ := gu_eq.1 h
  refine ⟨0, ?_⟩
  rw [rFive_b0, in4F_ok ha, Option.bind_some]
  by_cases c : inT a
  · rw [decide_eq_true c, Bool.not_true, cond_f, frameF_ok c, Option.bind_some, if_pos c, mant_two c]
    rfl
  · rw [decide_eq_false c, if_neg c]
    rfl
theorem mant_Lim {e : Int} (h : inT e) : mant e < Lim ∧ mant e + 1 < Lim := by
  have := (fact h).hi
  exact ⟨big_Lim (by omega), big_Lim (by omega)⟩
theorem rWhole_law {a : Int} {t : Bool × Int} (h : pWholeF a = some t) : ∃ k : Nat, rWhole_b0 a = some t := by
  obtain ⟨ha, rfl⟩ := gu_eq.1 h
  refine ⟨0, ?_⟩
  rw [rWhole_b0, in4F_ok ha, Option.bind_some]
  by_cases c : inT a
  · rw [decide_eq_true c, Bool.not_true, cond_f, if_pos c, cond_dec]
    have h0 : -348 ≤ a := c.1
    have h1 : a ≤ 347 := c.2
    have hfi := frm_I c
    by_cases c2 : a < 0
    · have hw : whl a = false := by rw [whl, decide_eq_false (by omega), Bool.false_and]
      rw [if_pos c2, hw]
    · have hw := whl_pos (e := a) (by omega)
      have hm : mant a = if blen (5 ^ a.toNat) ≤ 128 then 5 ^ a.toNat * 2 ^ (128 - blen (5 ^ a.toNat)) else 5 ^ a.toNat / 2 ^ (blen (5 ^ a.toNat) - 128) := by rw [mant, if_pos (by omega)]
      have hf : frm a = (blen (5 ^ a.toNat) : Int) - 128 := by rw [frm, if_pos (by omega)]
      have hM := mant_Lim c
      have hmt := mant_two c
      rw [if_neg c2, frameF_ok c, Option.bind_some, hw]
      obtain ⟨n, rfl⟩ := Int.eq_ofNat_of_zero_le (show 0 ≤ a by omega)
      try simp only [Int.ofNat_eq_natCast] at *
      rw [Int.toNat_natCast] at *
      have hn : n ≤ 2000 := by omega
      have hV := V_can (five_Lim hn)
      have hL := blen5_le hn
      rw [Power4_five hn, Option.bind_some]
      generalize hB : blen (5 ^ n) = B at *
      rw [cond_dec]
      by_cases c3 : B ≤ 128
      · rw [if_pos (by omega), decide_eq_true c3, Bool.true_or]
      · rw [if_neg c3] at hm
        have hs := r3Shl_ok' (V_can hM.1) (n := B - 128) (by omega) (by rw [hmt]; simp)
        have e2 : (B : Int) - 128 = ((B - 128 : Nat) : Int) := by omega
        have hle : mant (n : Int) * 2 ^ (B - 128) ≤ 5 ^ n := by
          rw [hm]
          exact Nat.div_mul_le_self _ _
        have hV2 := V_can (Nat.lt_of_le_of_lt hle (five_Lim hn))
        have hc : r3CmpF (can (mant (n : Int) * 2 ^ (B - 128)), can (5 ^ n)) = some (sgn (val (can (mant (n : Int) * 2 ^ (B - 128)))) (val (can (5 ^ n)))) := gu_pos ⟨hV2.U, hV.U⟩
        rw [val_can] at hs
        rw [val_can, val_can] at hc
        rw [if_neg (by omega), hf, e2, hs, Option.bind_some, hc, Option.bind_some, decide_eq_false c3, Bool.false_or]
        congr 2
        rw [Bool.eq_iff_iff, decide_eq_true_eq, decide_eq_true_eq]
        have hdm := Nat.div_add_mod (5 ^ n) (2 ^ (B - 128))
        rw [← hm, Nat.mul_comm] at hdm
        generalize mant (n : Int) * 2 ^ (B - 128) = X at *
        generalize 5 ^ n % 2 ^ (B - 128) = R at *
        unfold sgn
        split
        · omega
        · split <;> omega
  · rw [decide_eq_false c, if_neg c]
    rfl
theorem rAbove_law {a : Int} {t : Int × Int × Int × Int} (h : pAboveF a = some t) : ∃ k : Nat, rAbove_b0 a = some t := by
  obtain ⟨ha, rfl⟩ := gu_eq.1 h
  refine ⟨0, ?_⟩
  have hw : pWholeF a = some (if inT a then (whl a, 0) else (false, 80)) := gu_pos ha
  rw [rAbove_b0, hw, Option.bind_some]
  by_cases c : inT a
  · have hM := mant_Lim c
    have h3 : r3AddF (can (mant a), [1]) = some (can (mant a + 1)) := by
      rw [r3AddF, gu_pos ⟨V_can hM.1, V_1, by show (can (mant a)).length + 1 ≤ _; rw [mant_two c]; simp, by show [(1 : Int)].length + 1 ≤ _; simp⟩, val_can, val_1]
    rw [if_pos c, if_pos c, abv_in c]
    dsimp only
    rw [decide_eq_true (rfl : (0 : Int) = 0), Bool.not_true, cond_f, frameF_ok c, Option.bind_some]
    cases whl a
    · dsimp only
      rw [Bool.not_false, cond_t, h3, Option.bind_some, mant_two' c]
      rfl
    · dsimp only
      rw [Bool.not_true, cond_f, mant_two c]
      rfl
  · rw [if_neg c, if_neg c]
    rfl
theorem rLog2_law {a : Int} {t : Int × Int} (h : pLog2F a = some t) : ∃ k : Nat, rLog2_b0 a = some t := by
  obtain ⟨ha, rfl⟩ := gu_eq.1 h
  refine ⟨0, ?_⟩
  rw [rLog2_b0, in4F_ok ha, Option.bind_some]
  by_cases c : inT a
  · have hf := frm_I c
    have h0 : -348 ≤ a := c.1
    have h1 : a ≤ 347 := c.2
    rw [decide_eq_true c, Bool.not_true, cond_f, frameF_ok c, Option.bind_some, if_pos c]
    have e1 : addI .i64 (frm a) 127 = frm a + 127 := addI_i64 (by omega)
    dsimp only
    rw [e1, addI_i64 (by omega)]
  · rw [decide_eq_false c, if_neg c]
    rfl
theorem rLog10_law {a : Int} {t : Int × Int} (h : pLog10F a = some t) : ∃ k : Nat, rLog10_b0 a = some t := by
  obtain ⟨ha, rfl⟩ := gu_eq.1 h
  refine ⟨0, ?_⟩
  rw [rLog10_b0, cond_dec]
  by_cases c : a < -1200
  · rw [if_pos c, if_neg (by omega)]
  · rw [if_neg c, cond_dec]
    by_cases c2 : a > 1200
    · rw [if_pos c2, if_neg (by omega)]
    · rw [if_neg c2, if_pos ⟨by omega, by omega⟩]
      have key : ∀ n : Nat, n ≤ 1200 → r3ShlF ([1], (n : Int)) = some (can (2 ^ n)) ∧ Count4F (can (2 ^ n)) = some (((lg10 (2 ^ n) + 1 : Nat) : Int)) := fun n hn => by
        have hs := r3Shl_ok' V_1 (n := n) (by omega) (by decide)
        rw [val_1, Nat.one_mul] at hs
        have hl := lim_can (two_Lim (n := n) (by omega))
        refine ⟨hs, ?_⟩
        rw [Count4F, gu_pos ⟨V_can (two_Lim (by omega)), by omega, by rw [val_can]; exact two_Lim (by omega)⟩, val_can, dec10_len _ (two_ne n)]
      rw [cond_dec]
      by_cases c3 : 0 ≤ a
      · obtain ⟨n, rfl⟩ := Int.eq_ofNat_of_zero_le c3
        try simp only [Int.ofNat_eq_natCast, Int.toNat_natCast] at *
        obtain ⟨k1, k2⟩ := key n (by omega)
        have hl := lg10_two (n := n)
        rw [if_pos (by omega), k1, Option.bind_some, k2, Option.bind_some, if_pos (by omega), subI_i64 (by omega)]
        congr 2
        omega
      · obtain ⟨n, hn⟩ := Int.eq_ofNat_of_zero_le (show 0 ≤ -a by omega)
        try simp only [Int.ofNat_eq_natCast, Int.toNat_natCast] at *
        obtain ⟨k1, k2⟩ := key n (by omega)
        have hl := lg10_two (n := n)
        have e0 : subI .i64 0 a = (n : Int) := by rw [subI_i64 (by omega)]; omega
        rw [if_neg (by omega), e0, k1, Option.bind_some, k2, Option.bind_some, if_neg c3, hn, Int.toNat_natCast, subI_i64 (by omega)]
        congr 2
        omega

/-! ### plumblaw08 -/
theorem pFiveF_in {e : Int} (h : inT e) : pFiveF e = some (hiW (mant e), loW (mant e), frm e, 0) := by
  have h0 : -348 ≤ e := h.1
  have h1 : e ≤ 347 := h.2
  rw [pFiveF, gu_pos (by unfold I64; omega), if_pos h]
theorem pFiveF_out {e : Int} (hi : I64 e) (h : ¬ inT e) : pFiveF e = some (0, 0, 0, 80) := by rw [pFiveF, gu_pos hi, if_neg h]
theorem alive8_law {t : Bool} (h : aliveF PUnit.unit = some t) : ∃ k : Nat, alive8_b0 = some t := by
  obtain ⟨ha, rfl⟩ := gu_eq.1 h
  refine ⟨0, ?_⟩
  have e1 : hiW (mant 28) = 9313225746154785156 := by kernel_rfl
  have e2 : loW (mant 28) = 4611686018427387904 := by kernel_rfl
  have e3 : frm 28 = -62 := by kernel_rfl
  rw [alive8_b0, pFiveF_in (by unfold inT; omega), Option.bind_some, e1, e2, e3]
  rfl
theorem shl8_law {a : List Int} {b : Int} {t : List Int} (h : shl8F (a, b) = some t) : ∃ k : Nat, shl8_b0 a b = some t := by
  obtain ⟨⟨ha, hb, hb1, hv⟩, rfl⟩ := gu_eq.1 h
  dsimp only at *
  refine ⟨0, ?_⟩
  obtain ⟨n, rfl⟩ := Int.eq_ofNat_of_zero_le hb
  try simp only [Int.ofNat_eq_natCast, Int.toNat_natCast] at *
  rw [shl8_b0, nShlF_ok ha (by omega), Option.bind_some]
theorem mul8_law {a b : List Int} {t : List Int} (h : mul8F (a, b) = some t) : ∃ k : Nat, mul8_b0 a b = some t := by
  obtain ⟨⟨ha, hb, hv⟩, rfl⟩ := gu_eq.1 h
  exact ⟨0, by rw [mul8_b0, nMulF_ok ha hb hv, Option.bind_some]⟩
theorem in4_ok : CtrOk Go.Proofs.Try.prog 143 (mkF [.int .i64] [.bool] in4F) := by
  refine mkF_ok (c := bodyOf Go.Proofs.Try.f143) (tab := S.tab) (cts := []) (res := [2]) tab_ok hm trivial Go.Proofs.Try.func143 (by kernel_rfl) (by kernel_rfl) (by kernel_rfl) (by kernel_rfl) (by kernel_rfl) ?_
  rintro a t h
  obtain ⟨k, hk⟩ := in4_law h
  exact ⟨in4_h, 3000, k, (in4_ev k a).trans hk⟩

theorem in8_ok : CtrOk Go.Proofs.Try.prog 95 (mkF [.int .i64] [.bool] in4F) := by
  refine mkF_ok (c := bodyOf Go.Proofs.Try.f95) (tab := S.tab) (cts := []) (res := [2]) tab_ok hm trivial Go.Proofs.Try.func95 (by kernel_rfl) (by kernel_rfl) (by kernel_rfl) (by kernel_rfl) (by kernel_rfl) ?_
  rintro a t h
  obtain ⟨k, hk⟩ := in8_law h
  exact ⟨in8_h, 3000, k, (in8_ev k a).trans hk⟩

theorem frame_ok : CtrOk Go.Proofs.Try.prog 144 (mkF [.int .i64] [.sl (.int .u64), .int .i64] frameF) := by
  refine mkF_ok (c := bodyOf Go.Proofs.Try.f144) (tab := S.tab) (cts := [(146, mkF [.int .u64, .int .i64] [.sl (.int .u64)] Power4F), (118, mkF [.sl (.int .u64)] [.int .i64] r3BitsF), (135, mkF [.sl (.int .u64), .int .i64] [.sl (.int .u64)] r3ShlF), (76, mkF [.sl (.int .u64), .sl (.int .u64)] [.sl (.int .u64), .sl (.int .u64), .int .i64] r3DivModF)]) (res := [2, 3]) tab_ok hm ⟨Power4_ok, r3Bits_ok, r3Shl_ok, r3DivMod_ok, trivial⟩ Go.Proofs.Try.func144 (by kernel_rfl) (by kernel_rfl) (by kernel_rfl) (by kernel_rfl) (by kernel_rfl) ?_
  rintro a t h
  obtain ⟨k, hk⟩ := frame_law h
  exact ⟨frame_h, 3000, k, (frame_ev k a).trans hk⟩

theorem rFive_ok : CtrOk Go.Proofs.Try.prog 106 (mkF [.int .i64] [.int .u64, .int .u64, .int .i64, .int .i64] pFiveF) := by
  refine mkF_ok (c := bodyOf Go.Proofs.Try.f106) (tab := S.tab) (cts := [(143, mkF [.int .i64] [.bool] in4F), (144, mkF [.int .i64] [.sl (.int .u64), .int .i64] frameF)]) (res := [2, 3, 4, 5]) tab_ok hm ⟨in4_ok, frame_ok, trivial⟩ Go.Proofs.Try.func106 (by kernel_rfl) (by kernel_rfl) (by kernel_rfl) (by kernel_rfl) (by kernel_rfl) ?_
  rintro a t h
  obtain ⟨k, hk⟩ := rFive_law h
  exact ⟨rFive_h, 3000, k, (rFive_ev k a).trans hk⟩

theorem rWhole_ok : CtrOk Go.Proofs.Try.prog 107 (mkF [.int .i64] [.bool, .int .i64] pWholeF) := by
  refine mkF_ok (c := bodyOf Go.Proofs.Try.f107) (tab := S.tab) (cts := [(143, mkF [.int .i64] [.bool] in4F), (144, mkF [.int .i64] [.sl (.int .u64), .int .i64] frameF), (146, mkF [.int .u64, .int .i64] [.sl (.int .u64)] Power4F), (135, mkF [.sl (.int .u64), .int .i64] [.sl (.int .u64)] r3ShlF), (129, mkF [.sl (.int .u64), .sl (.int .u64)] [.int .i64] r3CmpF)]) (res := [2, 3]) tab_ok hm ⟨in4_ok, frame_ok, Power4_ok, r3Shl_ok, r3Cmp_ok, trivial⟩ Go.Proofs.Try.func107 (by kernel_rfl) (by kernel_rfl) (by kernel_rfl) (by kernel_rfl) (by kernel_rfl) ?_
  rintro a t h
  obtain ⟨k, hk⟩ := rWhole_law h
  exact ⟨rWhole_h, 3000, k, (rWhole_ev k a).trans hk⟩

theorem rAbove_ok : CtrOk Go.Proofs.Try.prog 108 (mkF [.int .i64] [.int .u64, .int .u64, .int .i64, .int .i64] pAboveF) := by
  refine mkF_ok (c := bodyOf Go.Proofs.Try.f108) (tab := S.tab) (cts := [(107, mkF [.int .i64] [.bool, .int .i64] pWholeF), (144, mkF [.int .i64] [.sl (.int .u64), .int .i64] frameF), (134, mkF [.sl (.int .u64), .sl (.int .u64)] [.sl (.int .u64)] r3AddF)]) (res := [2, 3, 4, 5]) tab_ok hm ⟨rWhole_ok, frame_ok, r3Add_ok, trivial⟩ Go.Proofs.Try.func108 (by kernel_rfl) (by kernel_rfl) (by kernel_rfl) (by kernel_rfl) (by kernel_rfl) ?_
  rintro a t h
  obtain ⟨k, hk⟩ := rAbove_law h
  exact ⟨rAbove_h, 3000, k, (rAbove_ev k a).trans hk⟩

theorem rLog2_ok : CtrOk Go.Proofs.Try.prog 104 (mkF [.int .i64] [.int .i64, .int .i64] pLog2F) := by
  refine mkF_ok (c := bodyOf Go.Proofs.Try.f104) (tab := S.tab) (cts := [(143, mkF [.int .i64] [.bool] in4F), (144, mkF [.int .i64] [.sl (.int .u64), .int .i64] frameF)]) (res := [2, 3]) tab_ok hm ⟨in4_ok, frame_ok, trivial⟩ Go.Proofs.Try.func104 (by kernel_rfl) (by kernel_rfl) (by kernel_rfl) (by kernel_rfl) (by kernel_rfl) ?_
  rintro a t h
  obtain ⟨k, hk⟩ := rLog2_law h
  exact ⟨rLog2_h, 3000, k, (rLog2_ev k a).trans hk⟩

theorem rLog10_ok : CtrOk Go.Proofs.Try.prog 105 (mkF [.int .i64] [.int .i64, .int .i64] pLog10F) := by
  refine mkF_ok (c := bodyOf Go.Proofs.Try.f105) (tab := S.tab) (cts := [(145, mkF [.sl (.int .u64)] [.int .i64] Count4F), (135, mkF [.sl (.int .u64), .int .i64] [.sl (.int .u64)] r3ShlF)]) (res := [2, 3]) tab_ok hm ⟨Count4_ok, r3Shl_ok, trivial⟩ Go.Proofs.Try.func105 (by kernel_rfl) (by kernel_rfl) (by kernel_rfl) (by kernel_rfl) (by kernel_rfl) ?_
  rintro a t h
  obtain ⟨k, hk⟩ := rLog10_law h
  exact ⟨rLog10_h, 3000, k, (rLog10_ev k a).trans hk⟩

theorem alive8_ok : CtrOk Go.Proofs.Try.prog 93 (mkF [] [.bool] aliveF) := by
  refine mkF_ok (c := bodyOf Go.Proofs.Try.f93) (tab := S.tab) (cts := [(94, mkF [.int .i64] [.int .u64, .int .u64, .int .i64, .int .i64] pFiveF)]) (res := [0]) tab_ok hm ⟨pFive_ok, trivial⟩ Go.Proofs.Try.func93 (by kernel_rfl) (by kernel_rfl) (by kernel_rfl) (by kernel_rfl) (by kernel_rfl) ?_
  rintro ⟨⟩ t h
  obtain ⟨k, hk⟩ := alive8_law h
  exact ⟨alive8_h, 3000, k, (alive8_ev k ).trans hk⟩

theorem shl8_ok : CtrOk Go.Proofs.Try.prog 140 (mkF [.sl (.int .u64), .int .i64] [.sl (.int .u64)] shl8F) := by
  refine mkF_ok (c := bodyOf Go.Proofs.Try.f140) (tab := S.tab) (cts := [(42, mkF [.sl (.int .u64), .int .i64] [.sl (.int .u64), .int .i64] nShlF)]) (res := [4]) tab_ok hm ⟨nShl_ok, trivial⟩ Go.Proofs.Try.func140 (by kernel_rfl) (by kernel_rfl) (by kernel_rfl) (by kernel_rfl) (by kernel_rfl) ?_
  rintro ⟨a, b⟩ t h
  obtain ⟨k, hk⟩ := shl8_law h
  exact ⟨shl8_h, 3000, k, (shl8_ev k a b).trans hk⟩

theorem mul8_ok : CtrOk Go.Proofs.Try.prog 98 (mkF [.sl (.int .u64), .sl (.int .u64)] [.sl (.int .u64)] mul8F) := by
  refine mkF_ok (c := bodyOf Go.Proofs.Try.f98) (tab := S.tab) (cts := [(38, mkF [.sl (.int .u64), .sl (.int .u64)] [.sl (.int .u64), .int .i64] nMulF)]) (res := [4]) tab_ok hm ⟨nMul_ok, trivial⟩ Go.Proofs.Try.func98 (by kernel_rfl) (by kernel_rfl) (by kernel_rfl) (by kernel_rfl) (by kernel_rfl) ?_
  rintro ⟨a, b⟩ t h
  obtain ⟨k, hk⟩ := mul8_law h
  exact ⟨mul8_h, 3000, k, (mul8_ev k a b).trans hk⟩

end Go.RX.S
