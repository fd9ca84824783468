/- Products: their contract. -/
import Derived.Test.YtciapojlnhiggaaGreatZUc
set_option linter.unusedVariables false
set_option linter.unusedSimpArgs false
namespace Go.RX.S
open Go Go.RX
/-- A row, a word's multiple of another added. -/
def mulrow (a : Nat) : Nat → List Int → List Int → List Int
  | c, [], _ => [(c : Int)]
  | c, y :: ys, s :: ss => (((s.toNat + a * y.toNat + c) % 18446744073709551616 : Nat) : Int) :: mulrow a ((s.toNat + a * y.toNat + c) / 18446744073709551616) ys ss
  | c, _ :: _, [] => []
theorem mul_bound {a y s c : Nat} (ha : a < 18446744073709551616) (hy : y < 18446744073709551616) (hs : s < 18446744073709551616) (hc : c < 18446744073709551616) : a * y ≤ 340282366920938463426481119284349108225 ∧ (s + a * y + c) / 18446744073709551616 < 18446744073709551616 := by
  have : a * y ≤ 18446744073709551615 * 18446744073709551615 := Nat.mul_le_mul (by omega) (by omega)
  generalize a * y = p at *
  omega
theorem mulrow_spec {a : Nat} (ha : a < 18446744073709551616) : ∀ (ys ss : List Int) (c : Nat), W64 ys → W64 ss → c < 18446744073709551616 → ys.length = ss.length → val (mulrow a c ys ss) = val ss + a * val ys + c ∧ W64 (mulrow a c ys ss) ∧ (mulrow a c ys ss).length = ys.length + 1
  | [], [], c, _, _, hc, _ => by
    refine ⟨by simp [mulrow, val_one], ?_, rfl⟩
    rw [mulrow, W64.cons]
    exact ⟨⟨by omega, by omega⟩, W64.nil⟩
  | y :: ys, s :: ss, c, hy, hs, hc, hl => by
    rw [W64.cons] at hy hs
    have hb := mul_bound (a := a) (y := y.toNat) (s := s.toNat) (c := c) ha (by omega) (by omega) hc
    obtain ⟨h1, h2, h3⟩ := mulrow_spec ha ys ss ((s.toNat + a * y.toNat + c) / 18446744073709551616) hy.2 hs.2 hb.2 (by simpa using hl)
    refine ⟨?_, ?_, by simp [mulrow, h3]⟩
    · rw [mulrow, val_cons, val_cons, val_cons, h1, Int.toNat_natCast, Nat.mul_add a, Nat.mul_left_comm a]
      generalize a * y.toNat = p at *
      generalize a * val ys = q at *
      omega
    · rw [mulrow, W64.cons]
      exact ⟨⟨by omega, by omega⟩, h2⟩
  | [], _ :: _, _, _, _, _, hl => by simp at hl
  | _ :: _, [], _, _, _, _, hl => by simp at hl
theorem wMulF_ok {a y : Nat} (ha : a < 18446744073709551616) (hy : y < 18446744073709551616) : wMulF ((a : Int), (y : Int)) = some (((a * y / 18446744073709551616 : Nat) : Int), ((a * y % 18446744073709551616 : Nat) : Int)) := by
  rw [wMulF, gu_pos ⟨Wd.of ha, Wd.of hy⟩]
  dsimp only
  rw [← Int.natCast_mul]
  rfl
theorem wAddF_nat {a b : Nat} (ha : a < 18446744073709551616) (hb : b < 18446744073709551616) : wAddF ((a : Int), (b : Int), 0) = some ((((a + b) % 18446744073709551616 : Nat) : Int), (((a + b) / 18446744073709551616 : Nat) : Int)) := by
  rw [wAddF_some (Wd.of ha) (Wd.of hb) (by omega) (by omega), Int.add_zero, ← Int.natCast_add]
  rfl
theorem app_assoc3 (a b c : List Int) (s : Int) : (a ++ s :: b) ++ c = a ++ s :: (b ++ c) := by simp
theorem nMul_inner {x : List Int} {i : Nat} {a : Nat} (ha : a < 18446744073709551616) (k : Nat) : ∀ (ys ss pre ypre rest : List Int) (z : Int) (c : Nat), W64 ys → W64 ss → c < 18446744073709551616 → ys.length = ss.length → pre.length = i + ypre.length → pre.length + ss.length ≤ 35218731827200 →
    nMul_L24 (k + ys.length + 1) (ypre ++ ys) (i : Int) (a : Int) (c : Int) x (x.length : Int) (i : Int) (ypre ++ ys) ((ypre ++ ys).length : Int) (ypre.length : Int) (pre ++ ss ++ z :: rest) = nMul_L16 k (ypre ++ ys) x (x.length : Int) ((i + 1 : Nat) : Int) (pre ++ mulrow a c ys ss ++ rest)
  | [], [], pre, ypre, rest, z, c, _, _, hc, _, hp, hl => by
    have e1 : addI .i64 (i : Int) (((ypre ++ []).length : Nat) : Int) = ((pre.length : Nat) : Int) := by
      rw [List.append_nil, addI_i64 (by simp at hl; omega)]
      omega
    have hlen : pre.length < (pre ++ z :: rest).length := by simp
    rw [nMul_L24, nMul_b24, cond_dec, if_neg (by simp), List.append_nil pre, e1, inR hlen, cond_t, inc (by simp at hl; omega), Int.toNat_natCast, wrI_mid rfl]
    simp [mulrow]
  | y :: ys, s :: ss, pre, ypre, rest, z, c, hy, hs, hc, hl, hp, hb => by
    rw [W64.cons] at hy hs
    simp only [List.length_cons] at hl hb
    obtain ⟨yn, rfl, hyn⟩ := Wd.nat hy.1
    obtain ⟨sn, rfl, hsn⟩ := Wd.nat hs.1
    have hmb := mul_bound (a := a) (y := yn) (s := sn) (c := c) ha hyn hsn hc
    have e1 : addI .i64 (i : Int) (ypre.length : Int) = ((pre.length : Nat) : Int) := by
      rw [addI_i64 (by omega)]
      omega
    have hleny : ypre.length < (ypre ++ (yn : Int) :: ys).length := by simp
    have hlen : pre.length < (pre ++ (sn : Int) :: (ss ++ z :: rest)).length := by simp
    rw [app_assoc3, List.length_cons, ← Nat.add_assoc, nMul_L24, nMul_b24, cond_dec, if_pos (by omega), inR hleny, cond_t, rdI_mid rfl, wMulF_ok ha hyn, Option.bind_some, e1, inR hlen, cond_t, Int.toNat_natCast, rdN_mid rfl]
    dsimp only
    rw [wAddF_nat (by omega) hsn, Option.bind_some]
    dsimp only
    rw [wAddF_nat (by omega) hc, Option.bind_some, cond_t, inc (by omega), wrI_mid rfl]
    dsimp only
    have ec : addI .u64 (addI .u64 ((a * yn / 18446744073709551616 : Nat) : Int) (((a * yn % 18446744073709551616 + sn) / 18446744073709551616 : Nat) : Int)) ((((a * yn % 18446744073709551616 + sn) % 18446744073709551616 + c) / 18446744073709551616 : Nat) : Int) = (((sn + a * yn + c) / 18446744073709551616 : Nat) : Int) := by
      rw [addI_u64, addI_u64]
      generalize a * yn = p at *
      omega
    have ed : ((a * yn % 18446744073709551616 + sn) % 18446744073709551616 + c) % 18446744073709551616 = (sn + a * yn + c) % 18446744073709551616 := by
      generalize a * yn = p at *
      omega
    rw [ec, ed, snoc_app ypre ys, ← snoc_len ypre (yn : Int)]
    have ih := nMul_inner (x := x) (i := i) ha k ys ss (pre ++ [(((sn + a * yn + c) % 18446744073709551616 : Nat) : Int)]) (ypre ++ [(yn : Int)]) rest z ((sn + a * yn + c) / 18446744073709551616) hy.2 hs.2 hmb.2 (by omega) (by rw [snoc_len, snoc_len]; omega) (by rw [snoc_len]; omega)
    have e3 : pre ++ (((sn + a * yn + c) % 18446744073709551616 : Nat) : Int) :: (ss ++ z :: rest) = pre ++ [(((sn + a * yn + c) % 18446744073709551616 : Nat) : Int)] ++ ss ++ z :: rest := by simp
    rw [e3]
    refine ih.trans ?_
    rw [mulrow, Int.toNat_natCast, Int.toNat_natCast]
    congr 1
    simp
  | [], _ :: _, _, _, _, _, _, _, _, _, hl, _, _ => by simp at hl
  | _ :: _, [], _, _, _, _, _, _, _, _, hl, _, _ => by simp at hl
theorem nMul_outer {x y : List Int} (hx : W64 x) (hy : W64 y) (hlim : x.length + y.length ≤ 17609365913600) : ∀ (n i : Nat) (o : List Int), i + n = x.length → o.length = i + y.length → W64 o → val o = val (x.take i) * val y →
    nMul_L16 (n * (y.length + 2) + 1) y x (x.length : Int) (i : Int) (o ++ List.replicate n 0) = some (bnd (val x * val y))
  | 0, i, o, hi, ho, hw, hv => by
    have hU : U (o ++ List.replicate 0 0) := ⟨W64.append.2 ⟨hw, W64.rep 0⟩, by simp; omega⟩
    rw [Nat.zero_mul, nMul_L16, nMul_b16, cond_dec, if_neg (by omega), nBoundF_U hU, Option.bind_some]
    rw [List.take_of_length_le (by omega)] at hv
    simp [hv]
  | n + 1, i, o, hi, ho, hw, hv => by
    have hlt : i < x.length := by omega
    have hxi := hx.get i
    obtain ⟨a, ha, hal⟩ := Wd.nat hxi
    have ef : (n + 1) * (y.length + 2) + 1 = ((n * (y.length + 2) + 1) + y.length + 1) + 1 := by
      rw [Nat.succ_mul]
      omega
    rw [ef, nMul_L16, nMul_b16, cond_dec, if_pos (by omega), inR hlt, cond_t, rdI_nat, ha]
    have hpre : (o.take i).length = i := by rw [List.length_take]; omega
    have hss : (o.drop i).length = y.length := by rw [List.length_drop]; omega
    have ho2 : o ++ List.replicate (n + 1) 0 = o.take i ++ o.drop i ++ 0 :: List.replicate n 0 := by
      rw [List.take_append_drop, List.replicate_succ]
    have := nMul_inner (x := x) (i := i) hal (n * (y.length + 2) + 1) y (o.drop i) (o.take i) [] (List.replicate n 0) 0 0 hy (hw.drop i) (by omega) hss.symm (by simp [hpre]) (by rw [hpre, hss]; omega)
    rw [List.nil_append] at this
    rw [ho2]
    refine this.trans ?_
    obtain ⟨h1, h2, h3⟩ := mulrow_spec hal y (o.drop i) 0 hy (hw.drop i) (by omega) hss.symm
    refine nMul_outer hx hy hlim n (i + 1) _ (by omega) (by rw [List.length_append, h3, hpre]; omega) (W64.append.2 ⟨hw.take i, h2⟩) ?_
    rw [val_append, h1, hpre, val_take_succ hlt, ha, Int.toNat_natCast]
    have hvo : val o = val (o.take i) + 18446744073709551616 ^ i * val (o.drop i) := by
      conv => lhs; rw [← List.take_append_drop i o]
      rw [val_append, hpre]
    rw [hvo] at hv
    generalize 18446744073709551616 ^ i = P at *
    grind
theorem Lim_pos : 0 < Lim := Nat.pow_pos (by omega)
theorem bnd_lt {v : Nat} (h : v < Lim) : bnd v = (can v, 0) := if_pos h
theorem bnd_zero : bnd 0 = ([], 0) := by
  unfold bnd
  rw [if_pos Lim_pos, can_zero]
theorem lt_Lim_blen {v : Nat} : v < Lim ↔ blen v ≤ 262144 := by
  have h := blen_le_iff (64 * lw) v
  rw [← Lim_pow] at h
  have e : 64 * lw = 262144 := rfl
  rw [e] at h
  exact h.symm
theorem nBitsF_ok {x : List Int} (h : V x) : nBitsF x = some (blen (val x) : Int) := gu_pos h
theorem blen_pos {v : Nat} (h : v ≠ 0) : 0 < blen v := by
  have := blen_le_iff 0 v
  rw [Nat.pow_zero] at this
  omega
theorem blen_mul {a b : Nat} (ha : a ≠ 0) (hb : b ≠ 0) : 2 ^ (blen a + blen b - 2) ≤ a * b := by
  have h1 := blen_ge ha
  have h2 := blen_ge hb
  have h3 : blen a ≠ 0 := fun e => ha (by have := blen_lt a; rw [e] at this; simpa using this)
  have h4 : blen b ≠ 0 := fun e => hb (by have := blen_lt b; rw [e] at this; simpa using this)
  rw [show blen a + blen b - 2 = (blen a - 1) + (blen b - 1) from by omega, Nat.pow_add]
  exact Nat.mul_le_mul h1 h2
theorem blen_V {x : List Int} (h : V x) : blen (val x) ≤ 1125899906842624 := by
  have h1 := val_lt h.1
  rw [pow64] at h1
  have := (blen_le_iff (64 * x.length) (val x)).2 h1
  have := h.2
  omega
theorem nMul_law {a b : List Int} {t : List Int × Int} (h : nMulF (a, b) = some t) : ∃ k : Nat, nMul_b0 (nMul_L16 k) (nMul_L24 k) a b = some t := by
  obtain ⟨⟨ha, hb⟩, rfl⟩ := gu_eq.1 h
  dsimp only at *
  have sa := sz_le a
  have sb := sz_le b
  have la := ha.2
  have lb := hb.2
  have hla : (a.take (sz a)).length = sz a := by rw [List.length_take]; omega
  have hlb : (b.take (sz b)).length = sz b := by rw [List.length_take]; omega
  have va := val_take_sz ha.1
  have vb := val_take_sz hb.1
  have Va : V (a.take (sz a)) := ⟨ha.1.take _, by omega⟩
  have Vb : V (b.take (sz b)) := ⟨hb.1.take _, by omega⟩
  have za := val_zero ha.1
  have zb := val_zero hb.1
  refine ⟨(a.take (sz a)).length * ((b.take (sz b)).length + 2) + 1, ?_⟩
  have d1 : (bif decide ((0 : Int) ≤ ((sz a : Nat) : Int)) then decide (((sz a : Nat) : Int) ≤ ((a.length : Nat) : Int)) else false) = true := by
    rw [cond_dec, if_pos (by omega), decide_eq_true_eq]
    omega
  have d2 : (bif decide ((0 : Int) ≤ ((sz b : Nat) : Int)) then decide (((sz b : Nat) : Int) ≤ ((b.length : Nat) : Int)) else false) = true := by
    rw [cond_dec, if_pos (by omega), decide_eq_true_eq]
    omega
  rw [nMul_b0, nSizeF_U ha.U, nSizeF_U hb.U, Option.bind_some, Option.bind_some, d1, d2, cond_t, cond_t, Int.toNat_natCast, Int.toNat_natCast]
  have hbl1 := blen_V Va
  have hbl2 := blen_V Vb
  have hsa : sz a ≤ lw ↔ val (a.take (sz a)) < 18446744073709551616 ^ lw := by
    rw [va]
    exact sz_le_iff ha.1 lw
  have hsb : sz b ≤ lw ↔ val (b.take (sz b)) < 18446744073709551616 ^ lw := by
    rw [vb]
    exact sz_le_iff hb.1 lw
  generalize a.take (sz a) = x at *
  generalize b.take (sz b) = y at *
  rw [← va, ← vb]
  rw [cond_dec, cond_dec]
  by_cases c1 : x.length = 0
  · have : val x = 0 := by omega
    rw [if_pos (by omega), this, Nat.zero_mul, bnd_zero]
  · rw [if_neg (by omega)]
    by_cases c2 : y.length = 0
    · have : val y = 0 := by omega
      rw [if_pos (by omega), this, Nat.mul_zero, bnd_zero]
    · have hx0 : val x ≠ 0 := by omega
      have hy0 : val y ≠ 0 := by omega
      rw [if_neg (by omega), nBitsF_ok Va, nBitsF_ok Vb, Option.bind_some, Option.bind_some, subI_i64 (by omega), subI_i64 (by omega), addI_i64 (by omega), cond_dec]
      by_cases c3 : ((blen (val x) : Nat) : Int) - 1 > 262144 - ((blen (val y) : Nat) : Int)
      · rw [if_pos c3]
        have h1 := blen_mul hx0 hy0
        have h2 : 2 ^ (64 * lw) ≤ 2 ^ (blen (val x) + blen (val y) - 2) := Nat.pow_le_pow_right (by omega) (by rw [lw_eq]; omega)
        have h3 : ¬ val x * val y < Lim := by
          rw [Lim_pow]
          omega
        unfold bnd
        rw [if_neg h3]
      · rw [if_neg c3]
        have e1 : decide ((0 : Int) ≤ ((x.length : Nat) : Int) + ((y.length : Nat) : Int)) = true := by rw [decide_eq_true_eq]; omega
        have e2 : decide ((((x.length : Nat) : Int) + ((y.length : Nat) : Int)) * 8 ≤ 281474976710656) = true := by rw [decide_eq_true_eq]; omega
        rw [e1, e2, cond_t, cond_t]
        have e3 : Int.toNat (((x.length : Nat) : Int) + ((y.length : Nat) : Int)) = y.length + x.length := by omega
        rw [e3, ← List.replicate_append_replicate]
        have bx1 := blen_pos hx0
        have by1 := blen_pos hy0
        have lx : sz a ≤ lw := hsa.2 (lt_Lim_blen.2 (by omega))
        have ly : sz b ≤ lw := hsb.2 (lt_Lim_blen.2 (by omega))
        rw [lw_eq] at lx ly
        have := nMul_outer Va.1 Vb.1 (by omega) x.length 0 (List.replicate y.length 0) (by omega) (by simp) (W64.rep _) (by rw [val_rep, List.take_zero, val_nil, Nat.zero_mul])
        exact this
theorem nMul_ok : CtrOk Go.Proofs.Tryz.prog 108 (mkF [.sl (.int .u64), .sl (.int .u64)] [.sl (.int .u64), .int .i64] nMulF) := by
  refine mkF_ok (c := bodyOf Go.Proofs.Tryz.f108) (tab := S.tab) (cts := [(99, mkF [.sl (.int .u64)] [.int .i64] nSizeF), (100, mkF [.sl (.int .u64)] [.int .i64] nBitsF), (116, mkF [.int .u64, .int .u64] [.int .u64, .int .u64] wMulF), (117, mkF [.int .u64, .int .u64, .int .u64] [.int .u64, .int .u64] wAddF), (102, mkF [.sl (.int .u64)] [.sl (.int .u64), .int .i64] nBoundF)]) (res := [4, 5]) tab_ok hm ⟨nSize_ok, nBits_ok, wMul_ok, wAdd_ok, nBound_ok, trivial⟩ Go.Proofs.Tryz.func108 (by kernel_rfl) (by kernel_rfl) (by kernel_rfl) (by kernel_rfl) (by kernel_rfl) ?_
  rintro ⟨a, b⟩ t h
  obtain ⟨k, hk⟩ := nMul_law h
  exact ⟨nMul_h, 3000, k, (nMul_ev k a b).trans hk⟩
end Go.RX.S
