/- quot: shifts, sums, quotients by one word. -/
import Derived.Test.YtciapojlnhiggaaGreatZWe
set_option linter.unusedVariables false
set_option linter.unusedSimpArgs false
namespace Go.RX.S
open Go Go.RX
theorem take_dig {l : List Int} (h : W64 l) {m : Nat} (hm : m ≤ l.length) (hv : val l < 18446744073709551616 ^ m) : l.take m = dig m (val l) := by
  have h1 := val_append (l.take m) (l.drop m)
  have h2 : (l.take m).length = m := by rw [List.length_take]; omega
  rw [List.take_append_drop, h2] at h1
  have h3 : val (l.drop m) = 0 := by
    rcases Nat.eq_zero_or_pos (val (l.drop m)) with h0 | h0
    · exact h0
    · have := Nat.mul_le_mul_left (18446744073709551616 ^ m) h0
      rw [Nat.mul_one] at this
      omega
  rw [h3, Nat.mul_zero, Nat.add_zero] at h1
  rw [h1]
  have := dig_val (h.take m)
  rw [h2] at this
  exact this.symm
theorem orI_low {w c r : Nat} (hr : r < 64) (hw : w < 18446744073709551616) (hc : c < 2 ^ r) : orI .u64 ((w * 2 ^ r % 18446744073709551616 : Nat) : Int) (c : Int) = ((w * 2 ^ r % 18446744073709551616 + c : Nat) : Int) := by
  have h64 : (2 : Nat) ^ r ≤ 2 ^ 64 := Nat.pow_le_pow_right (by omega) (by omega)
  have h65 : (2 : Nat) ^ 64 = 18446744073709551616 := rfl
  rw [h65] at h64
  rw [orI_u64 _ _ (Nat.mod_lt _ (by omega)) (by omega), mul_mod_pow (by omega), or_low hc]
theorem qshl_loop {x : List Int} {r m : Nat} (hr : r < 64) (hm : m = x.length ∨ m = x.length + 1) (hxl : x.length ≤ 17592186044416) : ∀ (ys xpre pre : List Int) (c k : Nat), x = xpre ++ ys → xpre.length = pre.length → W64 ys → c < 2 ^ r → ys.length + 1 ≤ k →
    qshl_L8 k x (r : Int) (m : Int) (c : Int) x (x.length : Int) (pre.length : Int) (pre ++ List.replicate (m - pre.length) 0) = some (pre ++ (shl r c (ys ++ [0])).take (m - pre.length))
  | ys, xpre, pre, c, 0, _, _, _, _, hk => by omega
  | [], xpre, pre, c, k + 1, hx, hp, hs, hc, hk => by
    have hxp : x.length = pre.length := by rw [hx, List.append_nil, hp]
    have e1 : shl r c ([] ++ [0]) = [(c : Int)] := by simp [shl]
    rw [qshl_L8, qshl_b8, cond_dec, if_neg (by omega), cond_dec, e1]
    rcases hm with hm | hm
    · rw [if_neg (by omega), show m - pre.length = 0 from by omega]
      simp
    · have e2 : m - pre.length = 1 := by omega
      rw [if_pos (by omega), e2, hxp, inR (by simp), cond_t, Int.toNat_natCast, show List.replicate 1 (0 : Int) = [0] from rfl, wrI_mid rfl]
      rfl
  | y :: ys, xpre, pre, c, k + 1, hx, hp, hs, hc, hk => by
    rw [W64.cons] at hs
    simp only [List.length_cons] at hk
    obtain ⟨yn, rfl, hyn⟩ := Wd.nat hs.1
    have hxl2 : x.length = pre.length + ys.length + 1 := by rw [hx, List.length_append, List.length_cons, hp]; omega
    obtain ⟨d, hd⟩ : ∃ d, m - pre.length = d + 1 := ⟨m - pre.length - 1, by omega⟩
    have hin : pre.length < (pre ++ List.replicate (m - pre.length) (0 : Int)).length := by rw [hd]; simp
    have hrd : rdI x (pre.length : Int) = (yn : Int) := by rw [hx]; exact rdI_mid hp
    have hdp : m - (pre.length + 1) = d := by omega
    have hw0 := wShlF_ok (a := 0) (by omega) hyn hr
    rw [show ((0 : Nat) : Int) = 0 from rfl] at hw0
    rw [qshl_L8, qshl_b8, cond_dec, if_pos (by omega), inR (by omega), cond_t, hrd, hw0, Option.bind_some, inR hin, cond_t, inc (by omega), Int.toNat_natCast, hd, List.replicate_succ, wrI_mid rfl]
    dsimp only
    rw [orI_low hr hyn hc, Nat.zero_mul, Nat.zero_mod, Nat.zero_add]
    have hc2 : yn * 2 ^ r / 18446744073709551616 < 2 ^ r := by
      rw [mul_div_pow (by omega)]
      exact div_pow_lt hyn (by omega)
    have ih := qshl_loop hr hm hxl ys (xpre ++ [(yn : Int)]) (pre ++ [((yn * 2 ^ r % 18446744073709551616 + c : Nat) : Int)]) _ k (by rw [hx]; simp) (by rw [snoc_len, snoc_len, hp]) hs.2 hc2 (by omega)
    rw [snoc_len, hdp, List.append_assoc, List.append_assoc] at ih
    rw [show (((yn * 2 ^ r % 18446744073709551616 + c : Nat) : Int) :: List.replicate d (0 : Int)) = [((yn * 2 ^ r % 18446744073709551616 + c : Nat) : Int)] ++ List.replicate d (0 : Int) from rfl]
    refine ih.trans ?_
    simp [shl]
theorem qshl_law {a : List Int} {n w : Int} {t : List Int} (h : qshlF (a, n, w) = some t) : ∃ k : Nat, qshl_b0 (qshl_L8 k) a n w = some t := by
  obtain ⟨⟨ha, h0, h1, hw, hv⟩, rfl⟩ := gu_eq.1 h
  dsimp only at *
  have hl := ha.2
  obtain ⟨r, rfl⟩ := Int.eq_ofNat_of_zero_le h0
  obtain ⟨m, rfl⟩ := Int.eq_ofNat_of_zero_le (show 0 ≤ w by omega)
  simp only [Int.ofNat_eq_natCast, Int.toNat_natCast] at *
  refine ⟨a.length + 1, ?_⟩
  have hm : m = a.length ∨ m = a.length + 1 := by omega
  have hsh : val (shl r 0 (a ++ [0])) = val a * 2 ^ r := shl_val r a 0
  have hW : W64 (shl r 0 (a ++ [0])) := shl_W64 (by omega) _ _ (W64.append.2 ⟨ha.1, by rw [W64.cons]; exact ⟨by omega, W64.nil⟩⟩) (Nat.pow_pos (by omega))
  have hL : (shl r 0 (a ++ [0])).length = a.length + 1 := by rw [shl_len]; simp
  have := qshl_loop (x := a) (r := r) (m := m) (by omega) hm hl a [] [] 0 (a.length + 1) rfl rfl ha.1 (Nat.pow_pos (by omega)) (by omega)
  rw [List.length_nil, Nat.sub_zero, List.nil_append, List.nil_append, take_dig hW (by omega) (by rw [hsh]; exact hv), hsh] at this
  rw [qshl_b0, decide_eq_true (show (0 : Int) ≤ (m : Int) by omega), cond_t, cond_dec, if_pos (by omega), Int.toNat_natCast]
  exact this
theorem snoc_ind {P : List Int → Prop} (h0 : P []) (h1 : ∀ l x, P l → P (l ++ [x])) : ∀ l, P l := by
  intro l
  have : ∀ n, ∀ l : List Int, l.length = n → P l := by
    intro n
    induction n with
    | zero =>
      intro l hl
      rw [List.length_eq_zero_iff.1 hl]
      exact h0
    | succ n ih =>
      intro l hl
      have hne : l ≠ [] := by rintro rfl; simp at hl
      have := h1 l.dropLast (l.getLast hne) (ih _ (by simp [hl]))
      rwa [List.dropLast_concat_getLast] at this
  exact this _ l rfl
theorem qshr_loop {x : List Int} {r : Nat} (hr : r < 64) (hx : V x) : ∀ (p suf : List Int) (k : Nat), x = p ++ suf → p.length + 1 ≤ k →
    qshr_L8 k x (r : Int) (suf.headD 0) ((p.length : Int) - 1) (List.replicate p.length 0 ++ shr r suf) = some (can (val x / 2 ^ r)) := by
  intro p
  induction p using snoc_ind with
  | h0 =>
    intro suf k he hk
    obtain ⟨k, rfl⟩ : ∃ m, k = m + 1 := ⟨k - 1, by omega⟩
    obtain rfl : x = suf := by simpa using he
    have hU : U (shr r x) := ⟨shr_W64 r x, by rw [shr_len]; have := hx.2; omega⟩
    rw [qshr_L8, qshr_b8, cond_dec, if_neg (by simp), List.length_nil, List.replicate_zero, List.nil_append, nNormF_U hU, Option.bind_some, shr_val hr _ hx.1]
  | h1 p s ih =>
    intro suf k he hk
    obtain ⟨k, rfl⟩ : ∃ m, k = m + 1 := ⟨k - 1, by omega⟩
    have hl := hx.2
    have he2 : x = p ++ s :: suf := by rw [he]; simp
    have hW := hx.1
    rw [he2, W64.append, W64.cons] at hW
    have hlen : x.length = p.length + suf.length + 1 := by rw [he2, List.length_append, List.length_cons]; omega
    have e1 : (((p ++ [s]).length : Nat) : Int) - 1 = ((p.length : Nat) : Int) := by rw [snoc_len]; omega
    have hab : Wd (suf.headD 0) := by
      cases suf with
      | nil => exact Wd_zero
      | cons a l => exact (W64.cons.1 hW.2.2).1
    obtain ⟨u, w, hsh⟩ := wShrF_ok (a := suf.headD 0) (b := s) hab hW.2.1 hr
    have hrd : rdI x (p.length : Int) = s := by rw [he2]; exact rdI_mid rfl
    have hrep : List.replicate (p ++ [s]).length (0 : Int) ++ shr r suf = List.replicate p.length 0 ++ 0 :: shr r suf := by
      rw [snoc_len, List.replicate_succ', List.append_assoc]
      rfl
    have hin : p.length < (List.replicate p.length (0 : Int) ++ 0 :: shr r suf).length := by simp
    rw [e1, hrep, qshr_L8, qshr_b8, cond_dec, if_pos (by omega), inR (by omega), cond_t, hrd, hsh, Option.bind_some, inR hin, cond_t, cond_t, Int.toNat_natCast, wrI_mid (by simp), subI_i64 (by omega)]
    exact ih (s :: suf) k he2 (by rw [snoc_len] at hk; omega)
theorem qshr_law {a : List Int} {n : Int} {t : List Int} (h : qshrF (a, n) = some t) : ∃ k : Nat, qshr_b0 (qshr_L8 k) a n = some t := by
  obtain ⟨⟨ha, h0, h1⟩, rfl⟩ := gu_eq.1 h
  dsimp only at *
  have hl := ha.2
  obtain ⟨r, rfl⟩ := Int.eq_ofNat_of_zero_le h0
  simp only [Int.ofNat_eq_natCast, Int.toNat_natCast] at *
  refine ⟨a.length + 1, ?_⟩
  have := qshr_loop (r := r) (by omega) ha a [] (a.length + 1) (by simp) (by omega)
  rw [qshr_b0, decide_eq_true (show (0 : Int) ≤ (a.length : Int) by omega), cond_t, cond_dec, if_pos (by omega), Int.toNat_natCast, subI_i64 (by omega)]
  simpa [shr] using this
theorem wDivF_ok {a b c : Nat} (hb : b < 18446744073709551616) (hc : c < 18446744073709551616) (h : a < c) : wDivF ((a : Int), (b : Int), (c : Int)) = some ((((a * 18446744073709551616 + b) / c : Nat) : Int), (((a * 18446744073709551616 + b) % c : Nat) : Int), 0) := by
  have hi : (a : Int) < (c : Int) := by omega
  rw [wDivF, gu_pos ⟨Wd.of (by omega), Wd.of hb, Wd.of hc, hi⟩]
  simp only [Int.toNat_natCast]
theorem qSmall_loop {x : List Int} {d : Nat} (hd : d < 18446744073709551616) (hx : V x) : ∀ (p suf qs : List Int) (r k : Nat), x = p ++ suf → qs.length = suf.length → W64 qs → r < d → p.length + 1 ≤ k →
    qSmall_L12 k x (d : Int) (r : Int) ((p.length : Int) - 1) (List.replicate p.length 0 ++ qs) = some (can ((r * 18446744073709551616 ^ p.length + val p) / d + 18446744073709551616 ^ p.length * val qs), (((r * 18446744073709551616 ^ p.length + val p) % d : Nat) : Int), 0) := by
  intro p
  induction p using snoc_ind with
  | h0 =>
    intro suf qs r k he hq hW hr hk
    obtain ⟨k, rfl⟩ : ∃ m, k = m + 1 := ⟨k - 1, by omega⟩
    obtain rfl : x = suf := by simpa using he
    have hl := hx.2
    have hU : U qs := ⟨hW, by omega⟩
    rw [qSmall_L12, qSmall_b12, cond_dec, if_neg (by simp), List.length_nil, List.replicate_zero, List.nil_append, nNormF_U hU, Option.bind_some, val_nil, Nat.pow_zero, Nat.mul_one, Nat.add_zero, Nat.div_eq_of_lt hr, Nat.mod_eq_of_lt hr, Nat.one_mul, Nat.zero_add]
  | h1 p s ih =>
    intro suf qs r k he hq hWq hr hk
    obtain ⟨k, rfl⟩ : ∃ m, k = m + 1 := ⟨k - 1, by omega⟩
    have hl := hx.2
    have he2 : x = p ++ s :: suf := by rw [he]; simp
    have hW := hx.1
    rw [he2, W64.append, W64.cons] at hW
    have hlen : x.length = p.length + suf.length + 1 := by rw [he2, List.length_append, List.length_cons]; omega
    have e1 : (((p ++ [s]).length : Nat) : Int) - 1 = ((p.length : Nat) : Int) := by rw [snoc_len]; omega
    have hrd : rdI x (p.length : Int) = s := by rw [he2]; exact rdI_mid rfl
    obtain ⟨sn, rfl, hsn⟩ := Wd.nat hW.2.1
    have hrep : List.replicate (p ++ [(sn : Int)]).length (0 : Int) ++ qs = List.replicate p.length 0 ++ 0 :: qs := by
      rw [snoc_len, List.replicate_succ', List.append_assoc]
      rfl
    have hin : p.length < (List.replicate p.length (0 : Int) ++ 0 :: qs).length := by simp
    have hd0 : 0 < d := by omega
    have hdm := Nat.div_add_mod (r * 18446744073709551616 + sn) d
    have hml := Nat.mod_lt (r * 18446744073709551616 + sn) hd0
    have hql : (r * 18446744073709551616 + sn) / d < 18446744073709551616 := by
      rw [Nat.div_lt_iff_lt_mul hd0]
      have : (r + 1) * 18446744073709551616 ≤ d * 18446744073709551616 := Nat.mul_le_mul_right _ hr
      rw [Nat.mul_comm d] at this
      omega
    rw [e1, hrep, qSmall_L12, qSmall_b12, cond_dec, if_pos (by omega), inR (by omega), cond_t, hrd, wDivF_ok hsn hd hr, Option.bind_some, inR hin, cond_t, Int.toNat_natCast, wrI_mid (by simp), subI_i64 (by omega)]
    dsimp only
    obtain ⟨q, hq1⟩ : ∃ q, (r * 18446744073709551616 + sn) / d = q := ⟨_, rfl⟩
    obtain ⟨r', hr1⟩ : ∃ r', (r * 18446744073709551616 + sn) % d = r' := ⟨_, rfl⟩
    rw [hq1] at hql
    rw [hr1] at hml
    rw [hq1, hr1] at hdm
    rw [hq1, hr1]
    refine (ih ((sn : Int) :: suf) ((q : Int) :: qs) r' k he2 (by simp [hq]) (by rw [W64.cons]; exact ⟨⟨by omega, by omega⟩, hWq⟩) hml (by rw [snoc_len] at hk; omega)).trans ?_
    have key : r * 18446744073709551616 ^ (p ++ [(sn : Int)]).length + val (p ++ [(sn : Int)]) = (r' * 18446744073709551616 ^ p.length + val p) + d * (18446744073709551616 ^ p.length * q) := by
      rw [snoc_len, val_snoc, Nat.pow_succ, Int.toNat_natCast]
      have : 18446744073709551616 ^ p.length * (r * 18446744073709551616 + sn) = 18446744073709551616 ^ p.length * (d * q + r') := by rw [hdm]
      grind
    rw [key, Nat.add_mul_div_left _ _ hd0, Nat.add_mul_mod_self_left, val_cons, snoc_len, Nat.pow_succ, Int.toNat_natCast]
    congr 3
    grind
theorem qSmall_law {a : List Int} {d : Int} {t : List Int × Int × Int} (h : qSmallF (a, d) = some t) : ∃ k : Nat, qSmall_b0 (qSmall_L12 k) a d = some t := by
  obtain ⟨⟨ha, hd⟩, rfl⟩ := gu_eq.1 h
  dsimp only at *
  have hl := ha.2
  obtain ⟨d, rfl, hdn⟩ := hd.nat
  refine ⟨a.length + 1, ?_⟩
  rw [qSmall_b0, cond_dec]
  by_cases c : (d : Int) = 0
  · rw [if_pos c, if_pos c]
  · have := qSmall_loop hdn ha a [] [] 0 (a.length + 1) (by simp) rfl W64.nil (by omega) (by omega)
    rw [if_neg c, if_neg c, decide_eq_true (show (0 : Int) ≤ (a.length : Int) by omega), cond_t, cond_dec, if_pos (by omega), Int.toNat_natCast, Int.toNat_natCast, subI_i64 (by omega)]
    simpa [val_nil] using this
theorem qshl_ok : CtrOk Go.Proofs.Tryz.prog 122 (mkN [.sl (.int .u64), .int .i64, .int .i64] 22 .u64 qshlF) := by
  refine mkN_ok (c := bodyOf Go.Proofs.Tryz.f122) (tab := S.tab) (cts := [(101, mkF [.int .u64, .int .u64, .int .i64] [.int .u64, .int .u64] wShlF)]) (res := [6]) rfl tab_ok hm ⟨wShl_ok, trivial⟩ Go.Proofs.Tryz.func122 (by kernel_rfl) (by kernel_rfl) (by kernel_rfl) (by kernel_rfl) (by kernel_rfl) ?_
  rintro ⟨a, b, c⟩ t h
  obtain ⟨k, hk⟩ := qshl_law h
  exact ⟨qshl_h, 3000, k, (qshl_ev k a b c).trans hk⟩
theorem qshr_ok : CtrOk Go.Proofs.Tryz.prog 125 (mkN [.sl (.int .u64), .int .i64] 22 .u64 qshrF) := by
  refine mkN_ok (c := bodyOf Go.Proofs.Tryz.f125) (tab := S.tab) (cts := [(126, mkF [.int .u64, .int .u64, .int .i64] [.int .u64, .int .u64, .bool] wShrF), (98, mkN [.sl (.int .u64)] 22 .u64 nNormF)]) (res := [4]) rfl tab_ok hm ⟨wShr_ok, nNorm_ok, trivial⟩ Go.Proofs.Tryz.func125 (by kernel_rfl) (by kernel_rfl) (by kernel_rfl) (by kernel_rfl) (by kernel_rfl) ?_
  rintro ⟨a, b⟩ t h
  obtain ⟨k, hk⟩ := qshr_law h
  exact ⟨qshr_h, 3000, k, (qshr_ev k a b).trans hk⟩
theorem nNormV_ok : CtrOk Go.Proofs.Tryz.prog 98 (mkZ [.sl (.int .u64)] .u64 nNormF) := mkZ_ok nNorm_ok
theorem qshrV_ok : CtrOk Go.Proofs.Tryz.prog 125 (mkZ [.sl (.int .u64), .int .i64] .u64 qshrF) := mkZ_ok qshr_ok
theorem qSmall_ok : CtrOk Go.Proofs.Tryz.prog 119 (mkF [.sl (.int .u64), .int .u64] [.sl (.int .u64), .int .u64, .int .i64] qSmallF) := by
  refine mkF_ok (c := bodyOf Go.Proofs.Tryz.f119) (tab := S.tab) (cts := [(121, mkF [.int .u64, .int .u64, .int .u64] [.int .u64, .int .u64, .int .i64] wDivF), (98, mkF [.sl (.int .u64)] [.sl (.int .u64)] nNormF)]) (res := [4, 5, 6]) tab_ok hm ⟨wDiv_ok, nNormZ_ok, trivial⟩ Go.Proofs.Tryz.func119 (by kernel_rfl) (by kernel_rfl) (by kernel_rfl) (by kernel_rfl) (by kernel_rfl) ?_
  rintro ⟨a, b⟩ t h
  obtain ⟨k, hk⟩ := qSmall_law h
  exact ⟨qSmall_h, 3000, k, (qSmall_ev k a b).trans hk⟩
end Go.RX.S
