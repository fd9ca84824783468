/- The table of powers of five; power, plumbref08. -/
import Derived.Test.YtandibmpaamfbaaWn
set_option linter.unusedVariables false
set_option linter.unusedSimpArgs false
namespace Go.RX.S
open Go Go.RX

/-! ### the table, computed once -/
/-- Both sides of a comparison of `v * 2 ^ x` with `5 ^ e`. -/
def ls (v : Nat) (x e : Int) : Nat := v * 5 ^ (-e).toNat * 2 ^ x.toNat
def rs (x e : Int) : Nat := 5 ^ e.toNat * 2 ^ (-x).toNat
/-- Both sides of a comparison of `2 ^ x` with `10 ^ e`. -/
def lo2 (x e : Int) : Nat := 2 ^ x.toNat * 10 ^ (-e).toNat
def ro2 (x e : Int) : Nat := 2 ^ (-x).toNat * 10 ^ e.toNat
def chk (e : Int) : Bool :=
  Nat.ble 170141183460469231731687303715884105728 (mant e) && Nat.ble (mant e + 2) 340282366920938463463374607431768211456
  && Nat.ble (ls (mant e) (frm e) e) (rs (frm e) e) && Nat.ble (rs (frm e) e + 1) (ls (mant e + 1) (frm e) e)
  && (Nat.beq (ls (mant e) (frm e) e) (rs (frm e) e) == whl e)
  && (whl e == (decide (0 ≤ e) && decide (e ≤ 55)))
  && Nat.ble (lo2 (frm e + 127 + e) e) (ro2 (frm e + 127 + e) e) && Nat.ble (ro2 (frm e + 128 + e) e + 1) (lo2 (frm e + 128 + e) e)
  && decide (-1000 ≤ frm e) && decide (frm e ≤ 1000)
  && (decide (e = 347) || decide (frm (e + 1) - frm e = 2) || decide (frm (e + 1) - frm e = 3))
theorem chk_all : (List.range 696).all (fun i => chk ((i : Int) - 348)) = true := by kernel_rfl
theorem chk_at {e : Int} (h : inT e) : chk e = true := by
  have h0 : -348 ≤ e := h.1
  have h1 : e ≤ 347 := h.2
  have := List.all_eq_true.1 chk_all (e + 348).toNat (List.mem_range.2 (by omega))
  have e1 : (((e + 348).toNat : Nat) : Int) - 348 = e := by omega
  rw [e1] at this
  exact this
structure Fact (e : Int) : Prop where
  lo : 170141183460469231731687303715884105728 ≤ mant e
  hi : mant e + 2 ≤ 340282366920938463463374607431768211456
  le : ls (mant e) (frm e) e ≤ rs (frm e) e
  gt : rs (frm e) e < ls (mant e + 1) (frm e) e
  eq : ls (mant e) (frm e) e = rs (frm e) e ↔ whl e = true
  wh : whl e = (decide (0 ≤ e) && decide (e ≤ 55))
  l2 : lo2 (frm e + 127 + e) e ≤ ro2 (frm e + 127 + e) e
  l3 : ro2 (frm e + 128 + e) e < lo2 (frm e + 128 + e) e
  f0 : -1000 ≤ frm e
  f1 : frm e ≤ 1000
  st : e = 347 ∨ frm (e + 1) - frm e = 2 ∨ frm (e + 1) - frm e = 3
theorem fact {e : Int} (h : inT e) : Fact e := by
  have := chk_at h
  rw [chk] at this
  simp only [Bool.and_eq_true, Bool.or_eq_true, decide_eq_true_eq, Nat.ble_eq, beq_iff_eq, Nat.beq_eq] at this
  obtain ⟨⟨⟨⟨⟨⟨⟨⟨⟨⟨a1, a2⟩, a3⟩, a4⟩, a5⟩, a6⟩, a7⟩, a8⟩, a9⟩, a10⟩, a11⟩ := this
  refine ⟨a1, a2, a3, a4, ?_, a6, a7, a8, a9, a10, ?_⟩
  · rw [← a5, Nat.beq_eq]
  · rcases a11 with (h | h) | h
    · exact .inl h
    · exact .inr (.inl h)
    · exact .inr (.inr h)

/-! ### two words -/
theorem can_two {v : Nat} (h0 : 18446744073709551616 ≤ v) (h1 : v < 340282366920938463463374607431768211456) : can v = [loW v, hiW v] := by
  have hq : v / 18446744073709551616 < 18446744073709551616 := by omega
  have hq0 : v / 18446744073709551616 ≠ 0 := by omega
  rw [can_pos (by omega), can_pos hq0, Nat.mod_eq_of_lt hq, Nat.div_eq_of_lt hq, can_zero]
  rfl
theorem big_Lim {v : Nat} (h1 : v < 340282366920938463463374607431768211456) : v < Lim := pow_Lim (n := 128) (by simpa using h1) (by omega)
theorem rg0 (h l f : Int) (w : Bool) : AV.toInt (aget (rowOf h l f w) 0) = h := rfl
theorem rg1 (h l f : Int) (w : Bool) : AV.toInt (aget (rowOf h l f w) 1) = l := rfl
theorem rg2 (h l f : Int) (w : Bool) : AV.toInt (aget (rowOf h l f w) 2) = f := rfl
theorem rg3 (h l f : Int) (w : Bool) : AV.toBool (aget (rowOf h l f w) 3) = w := rfl

/-! ### power -/
theorem sides_law {t : List AV} (h : sidesC PUnit.unit = some t) : ∃ k : Nat, sides_b0 = some t := ⟨0, h⟩
theorem ptold_law {a : List Int} {b : Int} {c : Bool} {t : List AV} (h : ptoldF (a, b, c) = some t) : ∃ k : Nat, ptold_b0 a b c = some t := by
  obtain ⟨ha, rfl⟩ := gu_eq.1 h
  refine ⟨0, ?_⟩
  dsimp only
  match a with
  | [] => rfl
  | [x] => rfl
  | [x, y] => rfl
  | x :: y :: z :: r =>
    have h1 : (x :: y :: z :: r).length ≠ 2 := by simp
    rw [ptold_b0, if_neg h1, decide_eq_false (by omega)]
    rfl
theorem ptoldF_two {v : Nat} (h0 : 18446744073709551616 ≤ v) (h1 : v < 340282366920938463463374607431768211456) (f : Int) (w : Bool) : ptoldF (can v, f, w) = some (rowOf (hiW v) (loW v) f w) := by
  rw [ptoldF, gu_pos (V_can (big_Lim h1))]
  simp only [can_two h0 h1]
  rfl
theorem blen5_pos (n : Nat) : 0 < blen (5 ^ n) := blen_pos (Nat.pos_iff_ne_zero.1 (Nat.pow_pos (by omega)))
theorem blen5_le {n : Nat} (h : n ≤ 2000) : blen (5 ^ n) ≤ 6001 := Nat.le_trans ((blen_le_iff _ _).2 (five_lt h)) (by omega)
theorem whl_pos {e : Int} (h : 0 ≤ e) : whl e = (decide (blen (5 ^ e.toNat) ≤ 128) || decide (5 ^ e.toNat % 2 ^ (blen (5 ^ e.toNat) - 128) = 0)) := by rw [whl, decide_eq_true h, Bool.true_and]
theorem up_law {a : Int} {t : List AV} (h : upF a = some t) : ∃ k : Nat, up_b0 a = some t := by
  obtain ⟨⟨h0, h1⟩, rfl⟩ := gu_eq.1 h
  refine ⟨0, ?_⟩
  have F := fact (e := a) (by unfold inT; omega)
  have hlo := F.lo
  have hhi := F.hi
  have hm : mant a = if blen (5 ^ a.toNat) ≤ 128 then 5 ^ a.toNat * 2 ^ (128 - blen (5 ^ a.toNat)) else 5 ^ a.toNat / 2 ^ (blen (5 ^ a.toNat) - 128) := by rw [mant, if_pos h0]
  have hf : frm a = (blen (5 ^ a.toNat) : Int) - 128 := by rw [frm, if_pos h0]
  have hw := whl_pos h0
  rw [rowE, hf]
  obtain ⟨n, rfl⟩ := Int.eq_ofNat_of_zero_le h0
  try simp only [Int.ofNat_eq_natCast] at *
  rw [Int.toNat_natCast] at *
  have hn : n ≤ 2000 := by omega
  have hV := V_can (five_Lim hn)
  have hL := blen5_le hn
  have h5 := nBitsF_ok hV
  rw [val_can] at h5
  generalize hB : blen (5 ^ n) = B at *
  have e1 : subI .i64 (B : Int) 128 = (B : Int) - 128 := subI_i64 (by omega)
  rw [up_b0, Five5F_ok hn, Option.bind_some]
  simp only [h5, Option.bind_some, e1]
  rw [cond_dec]
  by_cases c : B ≤ 128
  · rw [if_pos c] at hm
    have hs := nShlF_ok hV (n := 128 - B) (by rw [val_can, hB]; omega)
    have e2 : subI .i64 0 ((B : Int) - 128) = ((128 - B : Nat) : Int) := by rw [subI_i64 (by omega)]; omega
    rw [val_can, ← hm] at hs
    rw [decide_eq_true c, Bool.true_or] at hw
    rw [if_pos (by omega), e2, hs, Option.bind_some]
    simp only [ptoldF_two (v := mant (n : Int)) (by omega) (by omega), Option.bind_some, hw]
    rfl
  · rw [if_neg c] at hm
    have hs := nShrF_ok hV (n := B - 128) (by omega) (by rw [val_can, hB]; omega)
    have e2 : (B : Int) - 128 = ((B - 128 : Nat) : Int) := by omega
    rw [val_can, ← hm] at hs
    rw [decide_eq_false c, Bool.false_or] at hw
    rw [if_neg (by omega), e2, hs, Option.bind_some]
    simp only [ptoldF_two (v := mant (n : Int)) (by omega) (by omega), Option.bind_some, hw, ne_eq, decide_not, Bool.not_not]
    rfl
theorem V_1 : V [1] := V_lit (by decide) (by decide)
theorem val_1 : val [1] = 1 := rfl
theorem down_law {a : Int} {t : List AV} (h : downF a = some t) : ∃ k : Nat, down_b0 a = some t := by
  obtain ⟨⟨h0, h1⟩, rfl⟩ := gu_eq.1 h
  refine ⟨0, ?_⟩
  have F := fact (e := a) (by unfold inT; omega)
  have hlo := F.lo
  have hhi := F.hi
  have hm : mant a = 2 ^ (blen (5 ^ (-a).toNat) + 127) / 5 ^ (-a).toNat := by rw [mant, if_neg (by omega)]
  have hf : frm a = -((blen (5 ^ (-a).toNat) : Int) + 127) := by rw [frm, if_neg (by omega)]
  have hw : whl a = false := by rw [whl, decide_eq_false (by omega), Bool.false_and]
  obtain ⟨n, hna⟩ := Int.eq_ofNat_of_zero_le (show 0 ≤ -a by omega)
  have hn : n ≤ 2000 := by clear hm hf; omega
  rw [hna, Int.toNat_natCast] at hm hf
  rw [rowE, hf, hw]
  have hV := V_can (five_Lim hn)
  have hL := blen5_le hn
  have h5 := nBitsF_ok hV
  rw [val_can] at h5
  generalize hB : blen (5 ^ n) = B at *
  have e0 : subI .i64 0 a = (n : Int) := by rw [subI_i64 (by omega)]; omega
  have e1 : addI .i64 (B : Int) 127 = (B : Int) + 127 := addI_i64 (by omega)
  have e2 : subI .i64 0 ((B : Int) + 127) = -((B : Int) + 127) := by rw [subI_i64 (by omega)]; omega
  have e3 : subI .i64 0 (-((B : Int) + 127)) = ((B + 127 : Nat) : Int) := by rw [subI_i64 (by omega)]; omega
  have hs := nShlF_ok V_1 (n := B + 127) (by rw [val_1]; have := (blen_le_iff 1 1).2 (by omega); omega)
  rw [val_1, Nat.one_mul] at hs
  have h2 : 2 ^ (B + 127) < Lim := pow_Lim (n := B + 128) (Nat.pow_lt_pow_right (by omega) (by omega)) (by omega)
  have hd := DivModF_pos (V_can h2) hV (by rw [val_can]; exact Nat.pos_iff_ne_zero.1 (Nat.pow_pos (by omega)))
  rw [val_can, val_can, ← hm] at hd
  rw [down_b0, e0, Five5F_ok hn, Option.bind_some]
  simp only [h5, Option.bind_some, e1, e2, e3, hs, hd, ptoldF_two (v := mant a) (by omega) (by omega)]
  rfl
theorem at_law {a : Int} {t : List AV × Bool} (h : atF a = some t) : ∃ k : Nat, at_b0 a = some t := by
  obtain ⟨ha, rfl⟩ := gu_eq.1 h
  refine ⟨0, ?_⟩
  rw [at_b0, cond_dec]
  by_cases c : a < -348
  · rw [if_pos c, if_neg (by unfold inT; omega)]
    rfl
  · rw [if_neg c, cond_dec]
    by_cases c2 : a > 347
    · rw [if_pos c2, if_neg (by unfold inT; omega)]
      rfl
    · rw [if_neg c2, if_pos (by unfold inT; omega), cond_dec]
      by_cases c3 : a < 0
      · have : downF a = some (rowE a) := gu_pos ⟨by omega, c3⟩
        rw [if_pos c3, this, Option.bind_some]
        rfl
      · have : upF a = some (rowE a) := gu_pos ⟨by omega, by omega⟩
        rw [if_neg c3, this, Option.bind_some]
        rfl
theorem atF_in {e : Int} (h : inT e) : atF e = some (rowE e, true) := by
  have h0 : -348 ≤ e := h.1
  have h1 : e ≤ 347 := h.2
  rw [atF, gu_pos (by unfold I64; omega), if_pos h]
theorem atF_out {e : Int} (hi : I64 e) (h : ¬ inT e) : atF e = some (row0, false) := by rw [atF, gu_pos hi, if_neg h]
theorem pFive_law {a : Int} {t : Int × Int × Int × Int} (h : pFiveF a = some t) : ∃ k : Nat, pFive_b0 a = some t := by
  obtain ⟨ha, rfl⟩ := gu_eq.1 h
  refine ⟨0, ?_⟩
  rw [pFive_b0]
  by_cases c : inT a
  · rw [atF_in c, Option.bind_some, if_pos c]
    rfl
  · rw [atF_out ha c, Option.bind_some, if_neg c]
    rfl
theorem pWhole_law {a : Int} {t : Bool × Int} (h : pWholeF a = some t) : ∃ k : Nat, pWhole_b0 a = some t := by
  obtain ⟨ha, rfl⟩ := gu_eq.1 h
  refine ⟨0, ?_⟩
  rw [pWhole_b0]
  by_cases c : inT a
  · rw [atF_in c, Option.bind_some, if_pos c]
    rfl
  · rw [atF_out ha c, Option.bind_some, if_neg c]
    rfl
theorem abv_in {e : Int} (h : inT e) : abv e = if whl e then (hiW (mant e), loW (mant e), frm e) else (hiW (mant e + 1), loW (mant e + 1), frm e) := by
  have := (fact h).hi
  rw [abv, if_neg (show ¬ mant e + 1 = 340282366920938463463374607431768211456 by omega)]
theorem frm_I {e : Int} (h : inT e) : -1000 ≤ frm e ∧ frm e ≤ 1000 := ⟨(fact h).f0, (fact h).f1⟩
theorem pAbove_law {a : Int} {t : Int × Int × Int × Int} (h : pAboveF a = some t) : ∃ k : Nat, pAbove_b0 a = some t := by
  obtain ⟨ha, rfl⟩ := gu_eq.1 h
  refine ⟨0, ?_⟩
  rw [pAbove_b0]
  by_cases c : inT a
  · have F := fact c
    have hlo := F.lo
    have hhi := F.hi
    rw [atF_in c, Option.bind_some, if_pos c, abv_in c]
    simp only [rowE, rg0, rg1, rg2, rg3, Bool.not_true, cond_f]
    cases hw : whl a
    · have hl : Wd (loW (mant a)) := by unfold loW; exact Wd.of (by omega)
      have hh : Wd (hiW (mant a)) := by unfold hiW; exact Wd.of (by omega)
      have a1 := wAddF_some (a := loW (mant a)) (b := 1) (c := 0) hl ⟨by omega, by omega⟩ (by omega) (by omega)
      have a2 := wAddF_some (a := hiW (mant a)) (b := 0) (c := (loW (mant a) + 1 + 0) / 18446744073709551616) hh ⟨by omega, by omega⟩ (by unfold loW; omega) (by unfold loW; omega)
      simp only [a1, Option.bind_some, a2, cond_f]
      rw [cond_dec, if_neg (by unfold hiW loW; omega)]
      simp only [Bool.false_eq_true, if_false]
      congr 1
      have e1 : (hiW (mant a) + 0 + (loW (mant a) + 1 + 0) / 18446744073709551616) % 18446744073709551616 = hiW (mant a + 1) := by unfold hiW loW; omega
      have e2 : (loW (mant a) + 1 + 0) % 18446744073709551616 = loW (mant a + 1) := by unfold loW; omega
      rw [e1, e2]
    · simp
  · rw [atF_out ha c, Option.bind_some, if_neg c]
    rfl
theorem pLog2_law {a : Int} {t : Int × Int} (h : pLog2F a = some t) : ∃ k : Nat, pLog2_b0 a = some t := by
  obtain ⟨ha, rfl⟩ := gu_eq.1 h
  refine ⟨0, ?_⟩
  rw [pLog2_b0]
  by_cases c : inT a
  · have hf := frm_I c
    have h0 : -348 ≤ a := c.1
    have h1 : a ≤ 347 := c.2
    rw [atF_in c, Option.bind_some, if_pos c]
    simp only [rowE, rg2, Bool.not_true, cond_f]
    have e1 : addI .i64 (frm a) 127 = frm a + 127 := addI_i64 (by omega)
    rw [e1, addI_i64 (by omega)]
  · rw [atF_out ha c, Option.bind_some, if_neg c]
    rfl
theorem two_Lim {n : Nat} (h : n ≤ 200000) : 2 ^ n < Lim := pow_Lim (n := n + 1) (Nat.pow_lt_pow_right (by omega) (by omega)) (by omega)
theorem dec10_len (v : Nat) (hv : v ≠ 0) : (dec10 v).length = lg10 v + 1 := by
  rw [dec10, if_neg hv, List.length_reverse, List.length_map, lg10]
  have : (gcan 10 v).length ≠ 0 := fun h => hv ((gcan_nil_iff (by omega)).1 h)
  omega
theorem lg10_two {n : Nat} : lg10 (2 ^ n) ≤ n / 3 + 1 := by
  have h1 : (2 : Nat) ^ n ≤ 2 ^ (3 * (n / 3 + 1)) := Nat.pow_le_pow_right (by omega) (by omega)
  have h2 : (2 ^ 3) ^ (n / 3 + 1) < 10 ^ (n / 3 + 1) := Nat.pow_lt_pow_left (by omega) (by omega)
  rw [Nat.pow_mul] at h1
  have := gcan_len (show 2 ≤ 10 by omega) (Nat.lt_of_le_of_lt h1 h2)
  unfold lg10
  omega
theorem two_ne (n : Nat) : 2 ^ n ≠ 0 := Nat.pos_iff_ne_zero.1 (Nat.pow_pos (by omega))
theorem pLog10_law {a : Int} {t : Int × Int} (h : pLog10F a = some t) : ∃ k : Nat, pLog10_b0 a = some t := by
  obtain ⟨ha, rfl⟩ := gu_eq.1 h
  refine ⟨0, ?_⟩
  rw [pLog10_b0, cond_dec]
  by_cases c : a < -1200
  · rw [if_pos c, if_neg (by omega)]
  · rw [if_neg c, cond_dec]
    by_cases c2 : a > 1200
    · rw [if_pos c2, if_neg (by omega)]
    · rw [if_neg c2, if_pos ⟨by omega, by omega⟩]
      have key : ∀ n : Nat, n ≤ 1200 → nShlF ([1], (n : Int)) = some (can (2 ^ n), 0) ∧ CountF (can (2 ^ n)) = some (((lg10 (2 ^ n) + 1 : Nat) : Int)) := fun n hn => by
        have hs := nShlF_ok V_1 (n := n) (by rw [val_1]; have := (blen_le_iff 1 1).2 (by omega); omega)
        rw [val_1, Nat.one_mul] at hs
        refine ⟨hs, ?_⟩
        rw [CountF, gu_pos ⟨V_can (two_Lim (by omega)), by rw [val_can]; exact two_Lim (by omega)⟩, val_can, dec10_len _ (two_ne n)]
      have e0 : subI .i64 0 a = -a := by rw [subI_i64 (by omega)]; omega
      rw [e0]
      by_cases c3 : 0 ≤ a
      · obtain ⟨n, rfl⟩ := Int.eq_ofNat_of_zero_le c3
        try simp only [Int.ofNat_eq_natCast, Int.toNat_natCast] at *
        obtain ⟨k1, k2⟩ := key n (by omega)
        have hl := lg10_two (n := n)
        have em : maxI (n : Int) (-(n : Int)) = (n : Int) := by unfold maxI; omega
        rw [em, k1, Option.bind_some]
        simp only [k2, Option.bind_some]
        rw [cond_dec, if_pos (by omega), if_pos (by omega), subI_i64 (by omega)]
        congr 2
        omega
      · obtain ⟨n, hn⟩ := Int.eq_ofNat_of_zero_le (show 0 ≤ -a by omega)
        try simp only [Int.ofNat_eq_natCast, Int.toNat_natCast] at *
        obtain ⟨k1, k2⟩ := key n (by omega)
        have hl := lg10_two (n := n)
        have em : maxI a (-a) = (n : Int) := by unfold maxI; omega
        have e1 : subI .i64 ((lg10 (2 ^ n) + 1 : Nat) : Int) 1 = (lg10 (2 ^ n) : Int) := by rw [subI_i64 (by omega)]; omega
        have e2 : subI .i64 0 (lg10 (2 ^ n) : Int) = -(lg10 (2 ^ n) : Int) := by rw [subI_i64 (by omega)]; omega
        rw [em, k1, Option.bind_some]
        simp only [k2, Option.bind_some]
        rw [cond_dec, if_neg (by omega), if_neg c3, hn, Int.toNat_natCast, e1, e2, subI_i64 (by omega)]
theorem sides_ok : CtrOk Go.Proofs.Try.prog 152 (mkF [] [.st [.opq 1, .opq 1]] sidesC) := by
  refine mkR_ok (c := bodyOf Go.Proofs.Try.f152) (tab := S.tab) (cts := []) (res := [.cell 0 132]) tab_ok hm trivial Go.Proofs.Try.func152 (by kernel_rfl) (by kernel_rfl) (by kernel_rfl) (by kernel_rfl) (by kernel_rfl) ?_
  rintro ⟨⟩ t h
  obtain ⟨k, hk⟩ := sides_law h
  exact ⟨sides_h, 3000, k, (sides_ev k ).trans hk⟩

theorem ptold_ok : CtrOk Go.Proofs.Try.prog 167 (mkF [.sl (.int .u64), .int .i64, .bool] [.st [.int .u64, .int .u64, .int .i64, .bool]] ptoldF) := by
  refine mkR_ok (c := bodyOf Go.Proofs.Try.f167) (tab := S.tab) (cts := []) (res := [.cell 6 120]) tab_ok hm trivial Go.Proofs.Try.func167 (by kernel_rfl) (by kernel_rfl) (by kernel_rfl) (by kernel_rfl) (by kernel_rfl) ?_
  rintro ⟨a, b, c⟩ t h
  obtain ⟨k, hk⟩ := ptold_law h
  exact ⟨ptold_h, 3000, k, (ptold_ev k a b c).trans hk⟩

theorem up_ok : CtrOk Go.Proofs.Try.prog 157 (mkF [.int .i64] [.st [.int .u64, .int .u64, .int .i64, .bool]] upF) := by
  refine mkR_ok (c := bodyOf Go.Proofs.Try.f157) (tab := S.tab) (cts := [(139, mkF [.int .i64] [.sl (.int .u64), .int .i64] Five5F), (43, mkF [.sl (.int .u64)] [.int .i64] nBitsF), (42, mkF [.sl (.int .u64), .int .i64] [.sl (.int .u64), .int .i64] nShlF), (52, mkF [.sl (.int .u64), .int .i64] [.sl (.int .u64), .bool, .int .i64] nShrF), (167, mkF [.sl (.int .u64), .int .i64, .bool] [.st [.int .u64, .int .u64, .int .i64, .bool]] ptoldF)]) (res := [.cell 2 120]) tab_ok hm ⟨Five_ok, nBits_ok, nShl_ok, nShr_ok, ptold_ok, trivial⟩ Go.Proofs.Try.func157 (by kernel_rfl) (by kernel_rfl) (by kernel_rfl) (by kernel_rfl) (by kernel_rfl) ?_
  rintro a t h
  obtain ⟨k, hk⟩ := up_law h
  exact ⟨up_h, 3000, k, (up_ev k a).trans hk⟩

theorem down_ok : CtrOk Go.Proofs.Try.prog 158 (mkF [.int .i64] [.st [.int .u64, .int .u64, .int .i64, .bool]] downF) := by
  refine mkR_ok (c := bodyOf Go.Proofs.Try.f158) (tab := S.tab) (cts := [(139, mkF [.int .i64] [.sl (.int .u64), .int .i64] Five5F), (43, mkF [.sl (.int .u64)] [.int .i64] nBitsF), (42, mkF [.sl (.int .u64), .int .i64] [.sl (.int .u64), .int .i64] nShlF), (75, mkF [.sl (.int .u64), .sl (.int .u64)] [.sl (.int .u64), .sl (.int .u64), .int .i64] DivModF), (167, mkF [.sl (.int .u64), .int .i64, .bool] [.st [.int .u64, .int .u64, .int .i64, .bool]] ptoldF)]) (res := [.cell 2 120]) tab_ok hm ⟨Five_ok, nBits_ok, nShl_ok, DivMod_ok, ptold_ok, trivial⟩ Go.Proofs.Try.func158 (by kernel_rfl) (by kernel_rfl) (by kernel_rfl) (by kernel_rfl) (by kernel_rfl) ?_
  rintro a t h
  obtain ⟨k, hk⟩ := down_law h
  exact ⟨down_h, 3000, k, (down_ev k a).trans hk⟩

theorem at_ok : CtrOk Go.Proofs.Try.prog 138 (mkF [.int .i64] [.st [.int .u64, .int .u64, .int .i64, .bool], .bool] atF) := by
  refine mkR_ok (c := bodyOf Go.Proofs.Try.f138) (tab := S.tab) (cts := [(152, mkF [] [.st [.opq 1, .opq 1]] sidesC), (157, mkF [.int .i64] [.st [.int .u64, .int .u64, .int .i64, .bool]] upF), (158, mkF [.int .i64] [.st [.int .u64, .int .u64, .int .i64, .bool]] downF)]) (res := [.cell 2 120, .tmp 3]) tab_ok hm ⟨sides_ok, up_ok, down_ok, trivial⟩ Go.Proofs.Try.func138 (by kernel_rfl) (by kernel_rfl) (by kernel_rfl) (by kernel_rfl) (by kernel_rfl) ?_
  rintro a t h
  obtain ⟨k, hk⟩ := at_law h
  exact ⟨at_h, 3000, k, (at_ev k a).trans hk⟩

theorem pFive_ok : CtrOk Go.Proofs.Try.prog 94 (mkF [.int .i64] [.int .u64, .int .u64, .int .i64, .int .i64] pFiveF) := by
  refine mkF_ok (c := bodyOf Go.Proofs.Try.f94) (tab := S.tab) (cts := [(138, mkF [.int .i64] [.st [.int .u64, .int .u64, .int .i64, .bool], .bool] atF)]) (res := [2, 3, 4, 5]) tab_ok hm ⟨at_ok, trivial⟩ Go.Proofs.Try.func94 (by kernel_rfl) (by kernel_rfl) (by kernel_rfl) (by kernel_rfl) (by kernel_rfl) ?_
  rintro a t h
  obtain ⟨k, hk⟩ := pFive_law h
  exact ⟨pFive_h, 3000, k, (pFive_ev k a).trans hk⟩

theorem pWhole_ok : CtrOk Go.Proofs.Try.prog 96 (mkF [.int .i64] [.bool, .int .i64] pWholeF) := by
  refine mkF_ok (c := bodyOf Go.Proofs.Try.f96) (tab := S.tab) (cts := [(138, mkF [.int .i64] [.st [.int .u64, .int .u64, .int .i64, .bool], .bool] atF)]) (res := [2, 3]) tab_ok hm ⟨at_ok, trivial⟩ Go.Proofs.Try.func96 (by kernel_rfl) (by kernel_rfl) (by kernel_rfl) (by kernel_rfl) (by kernel_rfl) ?_
  rintro a t h
  obtain ⟨k, hk⟩ := pWhole_law h
  exact ⟨pWhole_h, 3000, k, (pWhole_ev k a).trans hk⟩

theorem pAbove_ok : CtrOk Go.Proofs.Try.prog 99 (mkF [.int .i64] [.int .u64, .int .u64, .int .i64, .int .i64] pAboveF) := by
  refine mkF_ok (c := bodyOf Go.Proofs.Try.f99) (tab := S.tab) (cts := [(138, mkF [.int .i64] [.st [.int .u64, .int .u64, .int .i64, .bool], .bool] atF), (39, mkF [.int .u64, .int .u64, .int .u64] [.int .u64, .int .u64] wAddF)]) (res := [2, 3, 4, 5]) tab_ok hm ⟨at_ok, wAdd_ok, trivial⟩ Go.Proofs.Try.func99 (by kernel_rfl) (by kernel_rfl) (by kernel_rfl) (by kernel_rfl) (by kernel_rfl) ?_
  rintro a t h
  obtain ⟨k, hk⟩ := pAbove_law h
  exact ⟨pAbove_h, 3000, k, (pAbove_ev k a).trans hk⟩

theorem pLog2_ok : CtrOk Go.Proofs.Try.prog 100 (mkF [.int .i64] [.int .i64, .int .i64] pLog2F) := by
  refine mkF_ok (c := bodyOf Go.Proofs.Try.f100) (tab := S.tab) (cts := [(138, mkF [.int .i64] [.st [.int .u64, .int .u64, .int .i64, .bool], .bool] atF)]) (res := [2, 3]) tab_ok hm ⟨at_ok, trivial⟩ Go.Proofs.Try.func100 (by kernel_rfl) (by kernel_rfl) (by kernel_rfl) (by kernel_rfl) (by kernel_rfl) ?_
  rintro a t h
  obtain ⟨k, hk⟩ := pLog2_law h
  exact ⟨pLog2_h, 3000, k, (pLog2_ev k a).trans hk⟩

theorem pLog10_ok : CtrOk Go.Proofs.Try.prog 101 (mkF [.int .i64] [.int .i64, .int .i64] pLog10F) := by
  refine mkF_ok (c := bodyOf Go.Proofs.Try.f101) (tab := S.tab) (cts := [(42, mkF [.sl (.int .u64), .int .i64] [.sl (.int .u64), .int .i64] nShlF), (141, mkF [.sl (.int .u64)] [.int .i64] CountF)]) (res := [2, 3]) tab_ok hm ⟨nShl_ok, Count_ok, trivial⟩ Go.Proofs.Try.func101 (by kernel_rfl) (by kernel_rfl) (by kernel_rfl) (by kernel_rfl) (by kernel_rfl) ?_
  rintro a t h
  obtain ⟨k, hk⟩ := pLog10_law h
  exact ⟨pLog10_h, 3000, k, (pLog10_ev k a).trans hk⟩

end Go.RX.S
