/- NatHuge: the limit, at it and past it. -/
import Derived.Test.YtandibmpaamfbaaVc
import Derived.Test.YtandibmpaamfbaaTc
set_option linter.unusedVariables false
set_option linter.unusedSimpArgs false
namespace Go.RX.S
open Go Go.RX

theorem val_full : ∀ n, val (List.replicate n 18446744073709551615) + 1 = 18446744073709551616 ^ n
  | 0 => rfl
  | n + 1 => by
    have := val_full n
    rw [List.replicate_succ, val_cons, Nat.pow_succ]
    omega
theorem W64_rep {x : Int} (h : Wd x) (n : Nat) : W64 (List.replicate n x) := fun y hy => by
  rw [List.mem_replicate] at hy
  rw [hy.2]
  exact h
theorem bnd_ge {v : Nat} (h : ¬ v < Lim) : bnd v = ([], 21) := if_neg h
theorem can_self {l : List Int} {n : Nat} (h : W64 l) (hl : l.length = n + 1) (hv : ¬ val l < 18446744073709551616 ^ n) : can (val l) = l := by
  have h1 := sz_le l
  have h2 := sz_le_iff h n
  rw [can_val h, List.take_of_length_le (by omega)]
theorem V_one {w : Int} (h : Wd w) : V [w] := ⟨by rw [W64.cons]; exact ⟨h, W64.nil⟩, by simp⟩
theorem V_nil : V [] := ⟨W64.nil, by simp⟩
theorem Lim_succ' (n : Nat) (h : lw = n + 1) : 18446744073709551616 ^ n * 18446744073709551616 = Lim := by
  rw [← Nat.pow_succ, Nat.succ_eq_add_one, ← h]
  rfl
theorem Lim_succ : ∃ n P, lw = n + 1 ∧ 18446744073709551616 ^ n = P ∧ P * 18446744073709551616 = Lim := ⟨lw - 1, _, rfl, rfl, Lim_succ' _ rfl⟩

theorem NatHuge_exit {k : Nat} (hk : k < 64) {w : Int} (hw : Wd w) (hw0 : w ≠ 0) {top over : List Int} (hov : wrI (List.replicate (nat_lit 4097) (0 : Int)) (nat_lit 4096) w = over) (ht1 : W64 top) (ht2 : top.length = 4096) (ht3 : val top + 1 = Lim) (ho1 : W64 over) (ho2 : over.length = 4097) (ho3 : val over = Lim * w.toNat) (l : Int → Int → Int → List Int → Option Bool) (i : Int) (hi : ¬ i < 4096) :
    NatHuge_b12 l (k : Int) w i top = some true := by
  obtain ⟨wn, rfl, hwn⟩ := hw.nat
  rw [Int.toNat_natCast] at ho3
  have hw1 : 1 ≤ wn := by omega
  have hL : Lim * 1 ≤ Lim * wn := Nat.mul_le_mul_left _ hw1
  have hL1 : 1 < Lim := small_Lim (by omega)
  have Vt : V top := ⟨ht1, by omega⟩
  have Vo : V over := ⟨ho1, by omega⟩
  have Vw : V [(wn : Int)] := V_one hw
  have V1 : V [1] := V_one ⟨by omega, by omega⟩
  have v1 : val [1] = 1 := rfl
  have vw : val [(wn : Int)] = wn := by rw [val_one, Int.toNat_natCast]
  have b1 : blen 1 = 1 := blen_unique (by omega) (.inr (by omega))
  have htop : can (val top) = top := by
    obtain ⟨n, P, hn, hP, hp⟩ := Lim_succ
    refine can_self (n := n) ht1 ?_ ?_
    · rw [← hn, lw_eq, ht2]
    · rw [hP]
      omega
  have hover : can (val over) = over := can_self (n := lw) ho1 (by rw [lw_eq]; omega) (by
    rw [ho3]
    show ¬ Lim * wn < Lim
    omega)
  have e1 : nAddF (top, [(wn : Int)]) = some ([], 21) := by
    rw [nAddF_V Vt Vw, vw, bnd_ge (by omega)]
  have e2 : nSumF [AV.ints IntKind.u64 top, AV.ints IntKind.u64 [], AV.ints IntKind.u64 [(wn : Int)]] = some ([], 21) := by
    rw [nSumF, gu_pos]
    · simp only [rows, List.map_cons, List.map_nil, AV.asInts, List.sum_cons, List.sum_nil, vw, val_nil]
      rw [bnd_ge (by omega)]
    · refine ⟨?_, by simp⟩
      simp only [rows, List.map_cons, List.map_nil, AV.asInts]
      intro x hx
      simp only [List.mem_cons, List.not_mem_nil, or_false] at hx
      rcases hx with rfl | rfl | rfl
      · exact Vt
      · exact V_nil
      · exact Vw
  have s1 : subI .u64 (wn : Int) 1 = ((wn - 1 : Nat) : Int) := by
    rw [subI_u64]
    omega
  have Vw1 : V [((wn - 1 : Nat) : Int)] := V_one (Wd.of (by omega))
  have vw1 : val [((wn - 1 : Nat) : Int)] = wn - 1 := by rw [val_one, Int.toNat_natCast]
  have hmul : wn ≤ Lim * wn := Nat.le_mul_of_pos_left _ (by omega)
  have hsub : ¬ Lim * wn - (wn - 1) < Lim := by
    obtain ⟨m, hm⟩ : ∃ m, wn = m + 1 := ⟨wn - 1, by omega⟩
    have : Lim * wn = Lim * m + Lim := by rw [hm, Nat.mul_succ]
    have : m ≤ Lim * m := Nat.le_mul_of_pos_left _ (by omega)
    omega
  have e3 : nSubF (over, [((wn - 1 : Nat) : Int)]) = some ([], 21) := by
    rw [nSubF, gu_pos ⟨Vo, Vw1⟩]
    dsimp only
    rw [vw1, ho3, if_neg (by omega), bnd_ge hsub]
  have e4 : nMulF (over, [1]) = some ([], 21) := by
    rw [nMulF_V Vo V1, v1, ho3, bnd_ge (by omega)]
  have hbo : 262144 < blen (val over) := by
    have := lt_Lim_blen (v := val over)
    rw [ho3] at this ⊢
    omega
  have hbo2 := blen_V Vo
  have e5 : nShrF (over, 0) = some ([], false, 21) := by
    rw [nShrF, gu_pos ⟨Vo, by omega⟩]
    dsimp only
    rw [if_neg (by omega), if_neg (by omega), if_pos (by omega)]
  have e6 : nAddF (top, []) = some (top, 0) := by
    rw [nAddF_V Vt V_nil, val_nil, Nat.add_zero, bnd_lt (by omega), htop]
  have e7 : nMulF (top, [1]) = some (top, 0) := by
    rw [nMulF_V Vt V1, v1, Nat.mul_one, bnd_lt (by omega), htop]
  have e8 : nSubF (top, []) = some (top, 0) := by
    rw [nSubF_ok Vt V_nil (by rw [val_nil]; omega) (by omega), val_nil, Nat.sub_zero, htop]
  have s2 : subI .i64 262143 (k : Int) = ((262143 - k : Nat) : Int) := by
    rw [subI_i64 (by omega)]
    omega
  have s3 : subI .i64 262144 (k : Int) = ((262144 - k : Nat) : Int) := by
    rw [subI_i64 (by omega)]
    omega
  have e9 : nShlF ([1], ((262143 - k : Nat) : Int)) = some (can (2 ^ (262143 - k)), 0) := by
    rw [nShlF_ok V1 (by rw [v1, b1]; omega), v1, Nat.one_mul]
  have c1 : cvI .u64 (k : Int) = (k : Int) := cvI_u64 (by omega)
  have hk2 : 2 ^ k < 18446744073709551616 := Nat.pow_lt_pow_right (a := 2) (n := 64) (by omega) hk
  have c2 : shlI .u64 1 (k : Int) = ((2 ^ k : Nat) : Int) := by
    have := shlI_u64 1 k
    rw [Nat.one_mul, Nat.mod_eq_of_lt hk2] at this
    exact this
  have bk : blen (2 ^ k) = k + 1 := blen_unique (by rw [Nat.pow_succ]; have := pow_pos2 k; omega) (.inr (by simp))
  have e10 : nShlF ([((2 ^ k : Nat) : Int)], ((262144 - k : Nat) : Int)) = some ([], 21) := by
    have hv : val [((2 ^ k : Nat) : Int)] = 2 ^ k := by rw [val_one, Int.toNat_natCast]
    have hp := pow_pos2 k
    rw [nShlF, gu_pos ⟨V_one (Wd.of hk2), by omega⟩]
    dsimp only
    rw [hv, if_neg (by omega), if_neg (by omega), if_neg (by rw [bk]; omega)]
  have hsame : sameF (top, top) = some true := by
    rw [sameF_ok (by omega)]
    simp
  have lp : blen (2 ^ (262143 - k)) = 262144 - k := blen_unique (by rw [show 262144 - k = (262143 - k) + 1 from by omega, Nat.pow_succ]; have := pow_pos2 (262143 - k); omega) (.inr (by rw [show 262144 - k - 1 = 262143 - k from by omega]; exact Nat.le_refl _))
  have lpl : 2 ^ (262143 - k) < Lim := lt_Lim_blen.2 (by rw [lp]; omega)
  have e11 : nBitsF (can (2 ^ (262143 - k))) = some ((262144 - k : Nat) : Int) := by
    rw [nBitsF_ok (V_can lpl), val_can, lp]
  have e12 : nShlF ([0, 0], 4611686018427387904) = some ([], 0) := by
    rw [nShlF, gu_pos ⟨V_lit (by decide) (by decide), by omega⟩]
    rfl
  have e13 : nShrF (over, 4611686018427387904) = some ([], true, 0) := by
    rw [nShrF, gu_pos ⟨Vo, by omega⟩]
    dsimp only
    rw [if_neg (by omega), if_pos (by omega), decide_eq_true (by omega)]
  have e14 : nMulF (over, []) = some ([], 0) := by
    rw [nMulF_V Vo V_nil, val_nil, Nat.mul_zero, bnd_zero]
  have s4 : subI .i64 (-1) (k : Int) = -1 - (k : Int) := subI_i64 (by omega)
  have e15 : nShlF (top, -1 - (k : Int)) = some ([], 22) := by
    rw [nShlF, gu_pos ⟨Vt, by omega⟩]
    dsimp only
    rw [if_pos (by omega)]
  have e16 : nShrF (top, -1 - (k : Int)) = some ([], false, 22) := by
    rw [nShrF, gu_pos ⟨Vt, by omega⟩]
    dsimp only
    rw [if_pos (by omega)]
  have e17 : nCmpF (over, top) = some 1 := by rw [nCmpF_ok Vo Vt, sgn_gt (by omega)]
  have e18 : nCmpF (top, over) = some (-1) := by rw [nCmpF_ok Vt Vo, sgn_lt (by omega)]
  have e19 : nBitsF over = some ((blen (val over) : Nat) : Int) := nBitsF_ok Vo
  have e20 : nNormF over = some over := by rw [nNormF_ok Vo, hover]
  have hsame2 : sameF (over, over) = some true := by
    rw [sameF_ok (by omega)]
    simp
  have d1 : decide (((blen (val over) : Nat) : Int) > 262144) = true := by
    rw [decide_eq_true_eq]
    omega
  have d2 : decide ((0 : Int) ≤ (k : Int)) = true := by
    rw [decide_eq_true_eq]
    omega
  have z : addI .i64 0 0 = 0 := by decide
  unfold NatHuge_b12
  rw [cond_dec, if_neg hi, hov]
  simp only [e1, e2, s1, e3, e4, e5, Option.bind_some, decide_true, Bool.not_true, cond_f, List.length_nil, Int.natCast_zero, z, e6, e7, e8, s2, s3, e9, c1, c2, d2, cond_t, e10, hsame, e11, e12, e13, e14, s4, e15, e16, e17, e18, e19, d1, e20, hsame2]
theorem NatHuge_loop {k : Nat} (hk : k < 64) {w : Int} (hw : Wd w) (hw0 : w ≠ 0) : ∀ (n i fuel : Nat), i + n = 4096 → n + 1 ≤ fuel → NatHuge_L12 fuel (k : Int) w (i : Int) (List.replicate i 18446744073709551615 ++ List.replicate n 0) = some true
  | n, i, 0, _, hf => by omega
  | 0, i, fuel + 1, hi, hf => by
    rw [NatHuge_L12]
    have hover : wrI (List.replicate (nat_lit 4097) (0 : Int)) (nat_lit 4096) w = List.replicate lw 0 ++ [w] := by
      have : List.replicate (nat_lit 4097) (0 : Int) = List.replicate lw 0 ++ (0 : Int) :: [] := by
        rw [show (nat_lit 4097 : Nat) = lw + 1 from rfl, List.replicate_succ']
      rw [this]
      exact wrI_mid (by simp; rfl)
    have hl : (List.replicate i (18446744073709551615 : Int) ++ List.replicate 0 0) = List.replicate i 18446744073709551615 := by simp
    have hwd : Wd 18446744073709551615 := ⟨by omega, by omega⟩
    have hfull := val_full i
    have hlim : 18446744073709551616 ^ i = Lim := by
      have : i = lw := by rw [lw_eq]; omega
      rw [this]
      rfl
    rw [hl]
    refine NatHuge_exit hk hw hw0 hover (W64_rep hwd i) (by rw [List.length_replicate]; omega) (by rw [hfull, hlim]) ?_ ?_ ?_ _ _ (by omega)
    · exact W64.append.2 ⟨W64.rep _, by rw [W64.cons]; exact ⟨hw, W64.nil⟩⟩
    · rw [List.length_append, List.length_replicate, lw_eq]
      rfl
    · rw [val_append, val_rep, Nat.zero_add, List.length_replicate, val_one]
      rfl
  | n + 1, i, fuel + 1, hi, hf => by
    have hlen : i < (List.replicate i (18446744073709551615 : Int) ++ List.replicate (n + 1) 0).length := by simp
    rw [NatHuge_L12, NatHuge_b12, cond_dec, if_pos (by omega), inR hlen, cond_t, inc (by omega), Int.toNat_natCast]
    have e : wrI (List.replicate i (18446744073709551615 : Int) ++ List.replicate (n + 1) 0) i 18446744073709551615 = List.replicate (i + 1) 18446744073709551615 ++ List.replicate n 0 := by
      rw [List.replicate_succ (n := n), wrI_mid (by simp), List.replicate_succ' (n := i)]
      simp
    rw [e]
    exact NatHuge_loop hk hw hw0 n (i + 1) fuel (by omega) (by omega)
theorem intoF_64 {n : Int} (h : I64 n) : ∃ m : Nat, m < 64 ∧ intoF (n, 64) = some (m : Int) := by
  refine ⟨(n % 64).toNat, by omega, ?_⟩
  rw [intoF, gu_pos ⟨by omega, by omega, h.1, h.2⟩]
  dsimp only
  congr 1
  omega
theorem NatHuge_law {a b : Int} {t : Bool} (h : NatHugeF (a, b) = some t) : ∃ k : Nat, NatHuge_b0 (NatHuge_L12 k) a b = some t := by
  obtain ⟨⟨ha, hb⟩, rfl⟩ := gu_eq.1 h
  dsimp only at *
  refine ⟨4097, ?_⟩
  obtain ⟨m, hm, em⟩ := intoF_64 ha
  have key : ∀ w, Wd w → w ≠ 0 → NatHuge_L12 4097 (m : Int) w 0 (List.replicate (nat_lit 4096) 0) = some true := fun w hw hw0 => NatHuge_loop hm hw hw0 4096 0 4097 rfl (Nat.le_refl _)
  rw [NatHuge_b0, em, Option.bind_some, cond_dec]
  split
  · exact key 1 ⟨by omega, by omega⟩ (by omega)
  · rename_i hb0
    exact key b hb hb0
theorem NatHuge_ok : CtrOk Go.Proofs.Try.prog 11 (mkF [.int .i64, .int .u64] [.bool] NatHugeF) := by
  refine mkF_ok (c := bodyOf Go.Proofs.Try.f11) (tab := S.tab) (cts := [(68, mkF [.int .i64, .int .i64] [.int .i64] intoF), (40, mkF [.sl (.int .u64), .sl (.int .u64)] [.sl (.int .u64), .int .i64] nAddF), (34, mkF [.sl (.sl (.int .u64))] [.sl (.int .u64), .int .i64] nSumF), (30, mkF [.sl (.int .u64), .sl (.int .u64)] [.sl (.int .u64), .int .i64] nSubF), (38, mkF [.sl (.int .u64), .sl (.int .u64)] [.sl (.int .u64), .int .i64] nMulF), (52, mkF [.sl (.int .u64), .int .i64] [.sl (.int .u64), .bool, .int .i64] nShrF), (31, mkF [.sl (.int .u64), .sl (.int .u64)] [.bool] sameF), (42, mkF [.sl (.int .u64), .int .i64] [.sl (.int .u64), .int .i64] nShlF), (43, mkF [.sl (.int .u64)] [.int .i64] nBitsF), (33, mkF [.sl (.int .u64), .sl (.int .u64)] [.int .i64] nCmpF), (32, mkF [.sl (.int .u64)] [.sl (.int .u64)] nNormF)]) (res := [4]) tab_ok hm ⟨into_ok, nAdd_ok, nSum_ok, nSub_ok, nMul_ok, nShr_ok, same_ok, nShl_ok, nBits_ok, nCmp_ok, nNormZ_ok, trivial⟩ Go.Proofs.Try.func11 (by kernel_rfl) (by kernel_rfl) (by kernel_rfl) (by kernel_rfl) (by kernel_rfl) ?_
  rintro ⟨a, b⟩ t h
  obtain ⟨k, hk⟩ := NatHuge_law h
  exact ⟨NatHuge_h, 3000, k, (NatHuge_ev k a b).trans hk⟩

end Go.RX.S
