/- NatAdds; the document's shifts; NatShifts. -/
import Derived.Test.YtandibmpaamfbaaWb
set_option linter.unusedVariables false
set_option linter.unusedSimpArgs false
namespace Go.RX.S
open Go Go.RX

theorem K_cut {x : List Int} (h : W64 x) : K (x.take 60) := ⟨h.take 60, by rw [List.length_take]; omega⟩
theorem bnd_len (v : Nat) : (bnd v).1.length ≤ 17609365913600 := by
  unfold bnd
  split
  · rename_i h
    exact (U_can h).2
  · simp
theorem told_same {l : List Int} {e : Int} (h : l.length ≤ 17609365913600) : toldF (l, e, l, e) = some true := by
  rw [toldF, gu_pos h]
  simp
theorem told_bnd (v : Nat) : toldF ((bnd v).1, (bnd v).2, (bnd v).1, (bnd v).2) = some true := told_same (bnd_len v)
theorem NatAdds_law {a b c : List Int} {t : Bool} (h : NatAddsF (a, b, c) = some t) : ∃ k : Nat, NatAdds_b0 a b c = some t := by
  obtain ⟨⟨ha, hb, hc⟩, rfl⟩ := gu_eq.1 h
  dsimp only at *
  refine ⟨0, ?_⟩
  have kx := K_cut ha
  have ky := K_cut hb
  have kz := K_cut hc
  rw [NatAdds_b0, cutF_ok ha, cutF_ok hb, cutF_ok hc]
  simp only [Option.bind_some]
  generalize a.take 60 = x at *
  generalize b.take 60 = y at *
  generalize c.take 60 = z at *
  have hs := sameF_can (v := val x) (K_lim kx)
  rw [decide_eq_true rfl] at hs
  have e1 : rNormF x = some (can (val x)) := gu_pos kx
  have e2 : rCmpF (x, y) = some (sgn (val x) (val y)) := gu_pos ⟨kx, ky⟩
  have e3 : nWordF x = some (if val x < 18446744073709551616 then ((val x : Int), true) else (0, false)) := gu_pos kx.V.U
  have e4 : rWordF x = some (if val x < 18446744073709551616 then ((val x : Int), true) else (0, false)) := gu_pos kx
  have hw : Wd (if val x < 18446744073709551616 then ((val x : Int), true) else (0, false)).1 := by
    split
    · rename_i h
      exact Wd.of h
    · exact Wd_zero
  generalize (if val x < 18446744073709551616 then ((val x : Int), true) else (0, false)) = w at *
  have e5 : nFromF w.1 = some (can w.1.toNat) := gu_pos hw
  have e6 : rFromF w.1 = some (can w.1.toNat) := gu_pos hw
  have hwn : w.1.toNat < Lim := small_Lim (by have := hw.2; have := hw.1; omega)
  have hs2 := sameF_can (v := w.1.toNat) hwn
  rw [decide_eq_true rfl] at hs2
  have e7 : rAddF (x, y) = some (bnd (val x + val y)) := gu_pos ⟨kx, ky⟩
  have e8 : nSubF (x, y) = some (if val x < val y then ([], 20) else bnd (val x - val y)) := gu_pos ⟨kx.V, ky.V⟩
  have e9 : rSubF (x, y) = some (if val x < val y then ([], 20) else bnd (val x - val y)) := gu_pos ⟨kx, ky⟩
  have hsub : (if val x < val y then (([], 20) : List Int × Int) else bnd (val x - val y)).1.length ≤ 17609365913600 := by
    split
    · simp
    · exact bnd_len _
  generalize (if val x < val y then (([], 20) : List Int × Int) else bnd (val x - val y)) = s at *
  have rowsE : rows [AV.ints IntKind.u64 x, AV.ints IntKind.u64 y, AV.ints IntKind.u64 z] = [x, y, z] := rfl
  have e10 : nSumF [AV.ints IntKind.u64 x, AV.ints IntKind.u64 y, AV.ints IntKind.u64 z] = some (bnd ([x, y, z].map val).sum) := by
    rw [nSumF, rowsE, gu_pos]
    refine ⟨?_, by simp⟩
    intro r hr
    simp only [List.mem_cons, List.not_mem_nil, or_false] at hr
    rcases hr with rfl | rfl | rfl
    · exact kx.V
    · exact ky.V
    · exact kz.V
  have e11 : rSumF [AV.ints IntKind.u64 x, AV.ints IntKind.u64 y, AV.ints IntKind.u64 z] = some (bnd ([x, y, z].map val).sum) := by
    rw [rSumF, rowsE, gu_pos]
    refine ⟨?_, by simp⟩
    intro r hr
    simp only [List.mem_cons, List.not_mem_nil, or_false] at hr
    rcases hr with rfl | rfl | rfl
    · exact kx
    · exact ky
    · exact kz
  have e12 : rMulF (x, y) = some (bnd (val x * val y)) := gu_pos ⟨kx, ky⟩
  simp only [nNormF_ok kx.V, e1, hs, nCmpF_ok kx.V ky.V, e2, e3, e4, e5, e6, hs2, nAddF_V kx.V ky.V, e7, e8, e9, e10, e11, nMulF_V kx.V ky.V, e12, told_bnd, told_same hsub, Option.bind_some, decide_true, Bool.not_true, cond_f, cond_t]

/-! ### shifts -/
theorem addN {u v : Nat} (h : u + v ≤ 9223372036854775807) : addI .i64 (u : Int) (v : Int) = ((u + v : Nat) : Int) := by
  rw [addI_i64 (by omega)]
  omega
theorem mulN {u v : Nat} (h : u * v ≤ 9223372036854775807) : mulI .i64 (u : Int) (v : Int) = ((u * v : Nat) : Int) := by
  have := Int.natCast_mul u v
  rw [mulI_i64 (by rw [← this]; omega), this]
theorem pow_loop_step (j : Nat) : 2 ^ j * 2 = 2 ^ (j + 1) := (Nat.pow_succ 2 j).symm
theorem rShl_copy {t : List Int} (ht : Dg 65536 t) (hl : t.length ≤ 4000) {f q : Nat} (hf : f ≤ 32768) (hq : q ≤ 20000) : ∀ (n i k : Nat) (h : List Int), i + n = t.length → n + 1 ≤ k → h.length = q + i → Dg 1099511627776 h → gval 65536 h = 65536 ^ q * (f * gval 65536 (t.take i)) → rShl_L30 k t (f : Int) (i : Int) h = some (bnd (65536 ^ q * (f * gval 65536 t)))
  | n, i, 0, h, _, hk, _, _, _ => by omega
  | 0, i, k + 1, h, hi, hk, hh, hd, hv => by
    rw [List.take_of_length_le (by omega)] at hv
    have hlen : (gcan 65536 (gval 65536 h)).length ≤ 1000000 := by
      refine Nat.le_trans (gcan_len b16 (n := q + (1 + t.length)) ?_) (by omega)
      have h1 := gval_lt ht
      have h2 : f * gval 65536 t < 65536 ^ (1 + t.length) := by
        rw [Nat.pow_add, Nat.pow_one]
        exact Nat.mul_lt_mul'' (by omega) h1
      rw [hv, Nat.pow_add]
      exact Nat.mul_lt_mul_of_pos_left h2 (Nat.pow_pos (by omega))
    rw [rShl_L30, rShl_b30, cond_dec, if_neg (by omega), carriedF, gu_pos ⟨hd, by omega⟩, Option.bind_some, rtoldF_ok hlen, Option.bind_some, hv]
  | n + 1, i, k + 1, h, hi, hk, hh, hd, hv => by
    have g := ht.get (by omega) i
    obtain ⟨x, hx⟩ := Int.eq_ofNat_of_zero_le g.1
    have hxl : x < 65536 := by omega
    have hp : x * f ≤ 65535 * 32768 := Nat.mul_le_mul (by omega) hf
    have em : mulI .i64 (x : Int) (f : Int) = ((x * f : Nat) : Int) := by
      have := Int.natCast_mul x f
      rw [mulI_i64 (by rw [← this]; omega), this]
    rw [rShl_L30, rShl_b30, cond_dec, if_pos (by omega), inR (by omega), cond_t, rdI_nat, hx, em, cond_dec, if_pos (by rw [snoc_len]; omega), inc (by omega)]
    refine rShl_copy ht hl hf hq n (i + 1) k _ (by omega) (by omega) (by rw [snoc_len]; omega) (Dg.append.2 ⟨hd, by rw [Dg.cons]; exact ⟨⟨by omega, by omega⟩, Dg.nil⟩⟩) ?_
    rw [gval_snoc, hv, hh, gval_take_succ, hx, Int.toNat_natCast, Int.toNat_natCast, Nat.pow_add]
    generalize 65536 ^ q = P
    generalize 65536 ^ i = Q
    grind
theorem rShl_pow {n : Nat} (hn : n ≤ 262144) {t h : List Int} {R : Option (List Int × Int)} : ∀ (m j k : Nat), j + m = n % 16 → m + 2 ≤ k → (∀ k', k ≤ k' + m + 1 → rShl_L30 k' t ((2 ^ (n % 16) : Nat) : Int) 0 h = R) → rShl_L22 k (n : Int) t ((2 ^ j : Nat) : Int) (j : Int) h = R
  | m, j, 0, _, hk, _ => by omega
  | 0, j, k + 1, hj, hk, hR => by
    have er : remI (n : Int) 16 = ((n % 16 : Nat) : Int) := by
      rw [remI, Int.tmod_eq_emod_of_nonneg (by omega)]
      omega
    rw [rShl_L22, rShl_b22, er, cond_dec, if_neg (by omega), show j = n % 16 from by omega]
    exact hR k (by omega)
  | m + 1, j, k + 1, hj, hk, hR => by
    have er : remI (n : Int) 16 = ((n % 16 : Nat) : Int) := by
      rw [remI, Int.tmod_eq_emod_of_nonneg (by omega)]
      omega
    have hjp : 2 ^ j ≤ 2 ^ 15 := Nat.pow_le_pow_right (by omega) (by omega)
    have em : mulI .i64 ((2 ^ j : Nat) : Int) 2 = ((2 ^ (j + 1) : Nat) : Int) := by
      have := mulN (u := 2 ^ j) (v := 2) (by omega)
      rw [pow_loop_step] at this
      exact this
    rw [rShl_L22, rShl_b22, er, cond_dec, if_pos (by omega), em, inc (by omega)]
    exact rShl_pow hn m (j + 1) k (by omega) (by omega) fun k' hk' => hR k' (by omega)
theorem quo16 {n : Nat} (h : n ≤ 9223372036854775807) : divI .i64 (n : Int) 16 = ((n / 16 : Nat) : Int) := by
  rw [divI, IntWalk.i64_quo _ _ (by omega)]
  omega
theorem gcan_zero_iff {v : Nat} : ((((gcan 65536 v).length : Nat) : Int) = 0) ↔ v = 0 := by
  have := gcan_len_iff b16 0 v
  rw [Nat.pow_zero] at this
  omega
theorem pow_16_split (n : Nat) : 65536 ^ (n / 16) * 2 ^ (n % 16) = 2 ^ n := by
  rw [pow16b, ← Nat.pow_add, show 16 * (n / 16) + n % 16 = n from by omega]
theorem rShl_law {a : List Int} {b : Int} {t : List Int × Int} (h : rShlF (a, b) = some t) : ∃ k : Nat, rShl_b0 (rShl_L22 k) (rShl_L30 k) a b = some t := by
  obtain ⟨⟨ha, hn⟩, rfl⟩ := gu_eq.1 h
  dsimp only at *
  have l1 := K_len ha
  refine ⟨5000, ?_⟩
  rw [rShl_b0, cond_dec]
  by_cases c0 : b < 0
  · rw [if_pos c0, if_pos c0]
  · rw [if_neg c0, if_neg c0, digitsF_ok ha, Option.bind_some]
    obtain ⟨n, rfl⟩ := Int.eq_ofNat_of_zero_le (Int.not_lt.1 c0)
    simp only [gcan_zero_iff]
    rw [cond_dec]
    by_cases c1 : val a = 0
    · rw [if_pos c1, if_pos c1]
    · rw [if_neg c1, if_neg c1, Int.toNat_natCast, cond_dec]
      by_cases c2 : (n : Int) > 262144
      · rw [if_pos c2, if_neg (by omega)]
      · have d1 : decide ((0 : Int) ≤ ((n / 16 : Nat) : Int)) = true := by rw [decide_eq_true_eq]; omega
        have hsp := pow_16_split n
        have hp : 2 ^ (n % 16) ≤ 2 ^ 15 := Nat.pow_le_pow_right (by omega) (by omega)
        have hv : gval 65536 (gcan 65536 (val a)) = val a := gval_gcan b16 _
        have d2 : decide (((n / 16 : Nat) : Int) * 8 ≤ 281474976710656) = true := by rw [decide_eq_true_eq]; omega
        rw [if_neg c2, quo16 (by omega), d1, d2, cond_t, cond_t, Int.toNat_natCast]
        have key := rShl_pow (n := n) (by omega) (t := gcan 65536 (val a)) (h := List.replicate (n / 16) 0) (R := some (bnd (val a * 2 ^ n))) (n % 16) 0 5000 (by omega) (by omega) fun k' hk' => by
          have := rShl_copy (gcan_ok b16 (val a)) l1 (f := 2 ^ (n % 16)) (q := n / 16) (by omega) (by omega) (gcan 65536 (val a)).length 0 k' (List.replicate (n / 16) 0) (by omega) (by omega) (by simp) (Dg.rep (by omega) _) (by rw [gval_rep]; simp [gval])
          rw [hv, ← Nat.mul_assoc, hsp, Nat.mul_comm] at this
          exact this
        rw [Nat.pow_zero] at key
        refine key.trans ?_
        by_cases c3 : blen (val a) + n ≤ 262144
        · rw [if_pos c3, bnd_lt (lt_Lim_blen.2 (by rw [blen_shl n c1]; exact c3))]
        · rw [if_neg c3, bnd_ge' (fun h => c3 (by have := lt_Lim_blen.1 h; rw [blen_shl n c1] at this; exact this))]

/-- Digits, all moved to the right. -/
def gs (f : Nat) : List Int → List Int
  | [] => []
  | x :: xs => ((x.toNat / f + (xs.headD 0).toNat % f * (65536 / f) : Nat) : Int) :: gs f xs
theorem gs_val {f g : Nat} (hf : 0 < f) (hg : f * g = 65536) : ∀ (xs : List Int), Dg 65536 xs → gval 65536 (gs f xs) = gval 65536 xs / f
  | [], _ => by simp [gs, gval]
  | x :: xs, h => by
    rw [Dg.cons] at h
    have hq : 65536 / f = g := by rw [← hg]; exact Nat.mul_div_cancel_left _ hf
    have hh : (xs.headD 0).toNat % f = gval 65536 xs % f := by
      match xs with
      | [] => rfl
      | y :: ys =>
        rw [List.headD_cons, gval_cons]
        conv => rhs; rw [← hg, Nat.mul_assoc, Nat.add_mul_mod_self_left]
    rw [gs, gval_cons, gs_val hf hg xs h.2, gval_cons, Int.toNat_natCast, hq, hh]
    have h1 : (x.toNat + 65536 * gval 65536 xs) / f = x.toNat / f + g * gval 65536 xs := by
      rw [← hg, Nat.mul_assoc, Nat.add_mul_div_left _ _ hf]
    have h2 := Nat.div_add_mod (gval 65536 xs) f
    rw [h1]
    generalize gval 65536 xs / f = q at *
    generalize gval 65536 xs % f = r at *
    generalize gval 65536 xs = V at *
    have e : 65536 * q = f * g * q := by rw [hg]
    rw [e, ← h2]
    grind
theorem gs_ok {f g : Nat} (hf : 0 < f) (hg : f * g = 65536) : ∀ (xs : List Int), Dg 65536 xs → Dg 65536 (gs f xs)
  | [], _ => Dg.nil
  | x :: xs, h => by
    rw [Dg.cons] at h
    have hq : 65536 / f = g := by rw [← hg]; exact Nat.mul_div_cancel_left _ hf
    rw [gs, Dg.cons, hq]
    refine ⟨⟨Int.natCast_nonneg _, ?_⟩, gs_ok hf hg xs h.2⟩
    have h1 : x.toNat / f < g := by
      rw [Nat.div_lt_iff_lt_mul hf, Nat.mul_comm, hg]
      omega
    have h2 : ((xs.headD 0).toNat % f + 1) * g ≤ f * g := Nat.mul_le_mul_right _ (Nat.mod_lt _ hf)
    rw [Nat.succ_mul, hg] at h2
    generalize x.toNat / f = u at *
    generalize (xs.headD 0).toNat % f * g = v at *
    omega
theorem rShr_copy {t : List Int} (ht : Dg 65536 t) (hl : t.length ≤ 4000) {f g : Nat} (hf : 0 < f) (hg : f * g = 65536) {lost : Bool} : ∀ (suf pre h : List Int) (k : Nat), t = pre ++ suf → suf.length + 1 ≤ k → Dg 65536 h → h.length ≤ pre.length →
    rShr_L40 k t lost (f : Int) (pre.length : Int) h = some (if (bnd (gval 65536 (h ++ gs f suf))).2 = 0 then ((bnd (gval 65536 (h ++ gs f suf))).1, lost, 0) else ([], false, (bnd (gval 65536 (h ++ gs f suf))).2))
  | suf, pre, h, 0, _, hk, _, _ => by omega
  | [], pre, h, k + 1, htt, hk, hd, hh => by
    have : pre.length = t.length := by rw [htt]; simp
    rw [rShr_L40, rShr_b40, cond_dec, if_neg (by omega), rtoldF, gu_pos ⟨hd, by omega⟩, Option.bind_some, cond_ndec]
    simp only [gs, List.append_nil]
    split <;> rfl
  | x :: suf, pre, h, k + 1, htt, hk, hd, hh => by
    simp only [List.length_cons] at hk
    have hlt : pre.length < t.length := by rw [htt]; simp
    have hts := ht
    rw [htt, Dg.append, Dg.cons] at hts
    obtain ⟨xn, rfl⟩ := Int.eq_ofNat_of_zero_le hts.2.1.1
    have hxl : xn < 65536 := by have := hts.2.1.2; omega
    have hrd : rdI t (pre.length : Int) = (xn : Int) := by
      rw [htt]
      exact rdI_mid rfl
    have hfl : f ≤ 65536 := by
      rw [← hg]
      refine Nat.le_mul_of_pos_right _ (Nat.pos_of_ne_zero ?_)
      rintro rfl
      omega
    have hq : 65536 / f = g := by rw [← hg]; exact Nat.mul_div_cancel_left _ hf
    have ed : divI .i64 (xn : Int) (f : Int) = ((xn / f : Nat) : Int) := by
      rw [divI, IntWalk.i64_quo _ _ (by omega)]
      rfl
    have edf : divI .i64 65536 (f : Int) = ((65536 / f : Nat) : Int) := by
      rw [divI, IntWalk.i64_quo _ _ (by omega)]
      rfl
    have key : rShr_L40 (k + 1) t lost (f : Int) (pre.length : Int) h = rShr_L40 k t lost (f : Int) ((pre.length + 1 : Nat) : Int) (h ++ [((xn / f + (suf.headD 0).toNat % f * (65536 / f) : Nat) : Int)]) := by
      rw [rShr_L40, rShr_b40, cond_dec, if_pos (by omega), inR hlt, cond_t, cond_ndec, if_neg (by omega), inc (by omega), hrd, ed, edf, cond_dec]
      match suf, htt with
      | [], htt =>
        have : pre.length + 1 = t.length := by rw [htt]; simp
        rw [if_neg (by omega), cond_dec, if_pos (by rw [snoc_len]; omega)]
        simp
      | y :: suf, htt =>
        have hlt2 : pre.length + 1 < t.length := by rw [htt]; simp
        have hty := ht
        rw [htt, Dg.append, Dg.cons, Dg.cons] at hty
        obtain ⟨yn, rfl⟩ := Int.eq_ofNat_of_zero_le hty.2.2.1.1
        have hyl : yn < 65536 := by have := hty.2.2.1.2; omega
        have hrd2 : rdI t ((pre.length + 1 : Nat) : Int) = (yn : Int) := by
          rw [htt, snoc_app]
          exact rdI_mid (snoc_len pre _)
        have er : remI (yn : Int) (f : Int) = ((yn % f : Nat) : Int) := by
          rw [remI, Int.tmod_eq_emod_of_nonneg (by omega)]
          rfl
        have hym : yn % f < f := Nat.mod_lt _ hf
        have hprod : (yn % f + 1) * g ≤ f * g := Nat.mul_le_mul_right _ hym
        rw [Nat.succ_mul, hg] at hprod
        have hx2 : xn / f ≤ xn := Nat.div_le_self _ _
        have em : mulI .i64 ((yn % f : Nat) : Int) ((65536 / f : Nat) : Int) = ((yn % f * (65536 / f) : Nat) : Int) := by
          exact mulN (by rw [hq]; omega)
        have ea : addI .i64 ((xn / f : Nat) : Int) ((yn % f * (65536 / f) : Nat) : Int) = ((xn / f + yn % f * (65536 / f) : Nat) : Int) := by
          refine addN ?_
          rw [hq]
          generalize xn / f = u at *
          generalize yn % f * g = v at *
          omega
        rw [if_pos (by omega), inR hlt2, cond_t, cond_ndec, if_neg (by omega), cond_ndec, if_neg (by omega), hrd2, er, em, ea, cond_dec, if_pos (by rw [snoc_len]; omega)]
        simp
    rw [key, ← snoc_len pre (xn : Int)]
    have hgs := gs_ok hf hg ((xn : Int) :: suf) (Dg.cons.2 hts.2)
    rw [gs, Dg.cons, Int.toNat_natCast] at hgs
    rw [rShr_copy ht hl hf hg suf (pre ++ [(xn : Int)]) _ k (by rw [htt]; simp) (by omega) (Dg.append.2 ⟨hd, by rw [Dg.cons]; exact ⟨hgs.1, Dg.nil⟩⟩) (by rw [snoc_len, snoc_len]; omega)]
    rw [gs, Int.toNat_natCast, List.append_assoc, List.singleton_append]
theorem NatAdds_ok : CtrOk Go.Proofs.Try.prog 9 (mkF [.sl (.int .u64), .sl (.int .u64), .sl (.int .u64)] [.bool] NatAddsF) := by
  refine mkF_ok (c := bodyOf Go.Proofs.Try.f9) (tab := S.tab) (cts := [(27, mkF [.sl (.int .u64)] [.sl (.int .u64)] cutF), (32, mkF [.sl (.int .u64)] [.sl (.int .u64)] nNormF), (58, mkF [.sl (.int .u64)] [.sl (.int .u64)] rNormF), (31, mkF [.sl (.int .u64), .sl (.int .u64)] [.bool] sameF), (33, mkF [.sl (.int .u64), .sl (.int .u64)] [.int .i64] nCmpF), (59, mkF [.sl (.int .u64), .sl (.int .u64)] [.int .i64] rCmpF), (60, mkF [.sl (.int .u64)] [.int .u64, .bool] nWordF), (61, mkF [.sl (.int .u64)] [.int .u64, .bool] rWordF), (62, mkF [.int .u64] [.sl (.int .u64)] nFromF), (63, mkF [.int .u64] [.sl (.int .u64)] rFromF), (40, mkF [.sl (.int .u64), .sl (.int .u64)] [.sl (.int .u64), .int .i64] nAddF), (64, mkF [.sl (.int .u64), .sl (.int .u64)] [.sl (.int .u64), .int .i64] rAddF), (30, mkF [.sl (.int .u64), .sl (.int .u64)] [.sl (.int .u64), .int .i64] nSubF), (65, mkF [.sl (.int .u64), .sl (.int .u64)] [.sl (.int .u64), .int .i64] rSubF), (34, mkF [.sl (.sl (.int .u64))] [.sl (.int .u64), .int .i64] nSumF), (66, mkF [.sl (.sl (.int .u64))] [.sl (.int .u64), .int .i64] rSumF), (38, mkF [.sl (.int .u64), .sl (.int .u64)] [.sl (.int .u64), .int .i64] nMulF), (67, mkF [.sl (.int .u64), .sl (.int .u64)] [.sl (.int .u64), .int .i64] rMulF), (54, mkF [.sl (.int .u64), .int .i64, .sl (.int .u64), .int .i64] [.bool] toldF)]) (res := [6]) tab_ok hm ⟨cut_ok, nNormZ_ok, rNorm_ok, same_ok, nCmp_ok, rCmp_ok, nWord_ok, rWord_ok, nFrom_ok, rFrom_ok, nAdd_ok, rAdd_ok, nSub_ok, rSub_ok, nSum_ok, rSum_ok, nMul_ok, rMul_ok, told_ok, trivial⟩ Go.Proofs.Try.func9 (by kernel_rfl) (by kernel_rfl) (by kernel_rfl) (by kernel_rfl) (by kernel_rfl) ?_
  rintro ⟨a, b, c⟩ t h
  obtain ⟨k, hk⟩ := NatAdds_law h
  exact ⟨NatAdds_h, 3000, k, (NatAdds_ev k a b c).trans hk⟩

end Go.RX.S
