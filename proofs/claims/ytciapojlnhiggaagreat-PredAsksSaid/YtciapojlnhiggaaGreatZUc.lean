/- Sums and differences: their contracts. -/
import Derived.Test.YtciapojlnhiggaaGreatZUb
set_option linter.unusedVariables false
set_option linter.unusedSimpArgs false
namespace Go.RX.S
open Go Go.RX
theorem rdN_mid {pre suf : List Int} {s : Int} {i : Nat} (h : pre.length = i) : rdN (pre ++ s :: suf) i = s := by
  rw [rdN, ← h]
  simp [List.getD_eq_getElem?_getD]
theorem val_mid (pre suf : List Int) (s : Int) : val (pre ++ s :: suf) = val pre + 18446744073709551616 ^ pre.length * (s.toNat + 18446744073709551616 * val suf) := by
  rw [val_append, val_cons]
theorem val_snoc (pre : List Int) (s : Int) : val (pre ++ [s]) = val pre + 18446744073709551616 ^ pre.length * s.toNat := by
  rw [val_append, val_one]
theorem snoc_app (pre suf : List Int) (s : Int) : pre ++ s :: suf = (pre ++ [s]) ++ suf := by simp
theorem snoc_len (pre : List Int) (s : Int) : (pre ++ [s]).length = pre.length + 1 := by simp
theorem Wd_zero : Wd 0 := ⟨by omega, by omega⟩
theorem wAddF_some {a b c : Int} (ha : Wd a) (hb : Wd b) (h0 : 0 ≤ c) (h1 : c ≤ 1) : wAddF (a, b, c) = some ((a + b + c) % 18446744073709551616, (a + b + c) / 18446744073709551616) := by
  have hc : Wd c := ⟨h0, by omega⟩
  rw [wAddF, gu_pos ⟨ha, hb, hc⟩]
  dsimp only
  rw [show c % 2 = c from by omega]
theorem carry_step {pre suf : List Int} {s s' : Int} {c' w c : Nat} (h : s'.toNat + 18446744073709551616 * c' = s.toNat + w + c) :
    val (pre ++ s :: suf) + 18446744073709551616 ^ pre.length * (w + c) = val ((pre ++ [s']) ++ suf) + 18446744073709551616 ^ (pre ++ [s']).length * c' := by
  rw [← snoc_app, snoc_len, val_mid, val_mid, Nat.pow_succ]
  have := congrArg (fun n => 18446744073709551616 ^ pre.length * n) h
  grind
theorem nsum_carry : ∀ (suf pre : List Int) (c k : Nat), W64 pre → W64 suf → c ≤ 1 → pre.length + suf.length ≤ 35218731827200 → suf.length + 1 ≤ k → val (pre ++ suf) + 18446744073709551616 ^ pre.length * c < 18446744073709551616 ^ (pre ++ suf).length →
    nsum_L24 k (c : Int) (pre.length : Int) (pre ++ suf) = some (dig (pre ++ suf).length (val (pre ++ suf) + 18446744073709551616 ^ pre.length * c))
  | suf, pre, c, 0, _, _, _, _, hk, _ => by omega
  | suf, pre, 0, k + 1, hp, hs, hc, hl, hk, hv => by
    rw [nsum_L24, nsum_b24, cond_dec, if_neg (by omega), Nat.mul_zero, Nat.add_zero, dig_val (W64.append.2 ⟨hp, hs⟩)]
  | [], pre, c + 1, k + 1, hp, hs, hc, hl, hk, hv => by
    rw [List.append_nil] at hv
    have : 18446744073709551616 ^ pre.length * (c + 1) ≥ 18446744073709551616 ^ pre.length := Nat.le_mul_of_pos_right _ (by omega)
    omega
  | s :: suf, pre, c + 1, k + 1, hp, hs, hc, hl, hk, hv => by
    obtain rfl : c = 0 := by omega
    rw [W64.cons] at hs
    simp only [List.length_cons] at hl hk
    have hlen : pre.length < (pre ++ s :: suf).length := by simp
    have hw : Wd s := hs.1
    have hadd : wAddF (s, 0, ((0 + 1 : Nat) : Int)) = some ((s + 1) % 18446744073709551616, (s + 1) / 18446744073709551616) := by
      rw [wAddF_some hw Wd_zero (by omega) (by omega)]
      simp
    rw [nsum_L24, nsum_b24, cond_dec, if_pos (by omega), inR hlen, cond_t, Int.toNat_natCast, rdN_mid rfl, hadd, Option.bind_some, cond_t, inc (by omega), wrI_mid rfl]
    have hc' : (s + 1) / 18446744073709551616 = (((s + 1) / 18446744073709551616).toNat : Int) := by omega
    have hst := carry_step (pre := pre) (suf := suf) (s := s) (s' := (s + 1) % 18446744073709551616) (c' := ((s + 1) / 18446744073709551616).toNat) (w := 0) (c := 1) (by omega)
    have hl2 : (pre ++ s :: suf).length = (pre ++ [(s + 1) % 18446744073709551616] ++ suf).length := by simp
    rw [Nat.zero_add] at hst
    dsimp only
    rw [snoc_app, hc', ← snoc_len pre ((s + 1) % 18446744073709551616)]
    rw [hst, hl2] at hv
    rw [hst, hl2]
    exact nsum_carry suf (pre ++ [(s + 1) % 18446744073709551616]) _ k (W64.append.2 ⟨hp, by rw [W64.cons]; exact ⟨by omega, W64.nil⟩⟩) hs.2 (by omega) (by rw [snoc_len]; omega) (by omega) hv
theorem nsum_loop : ∀ (ys suf pre ypre : List Int) (c k : Nat), W64 pre → W64 suf → W64 ys → c ≤ 1 → ypre.length = pre.length → ys.length ≤ suf.length → pre.length + suf.length ≤ 35218731827200 → ys.length + suf.length + 2 ≤ k → val (pre ++ suf) + 18446744073709551616 ^ pre.length * (val ys + c) < 18446744073709551616 ^ (pre ++ suf).length →
    nsum_L14 k (ypre ++ ys) (c : Int) (ypre ++ ys) ((ypre ++ ys).length : Int) (pre.length : Int) (pre ++ suf) = some (dig (pre ++ suf).length (val (pre ++ suf) + 18446744073709551616 ^ pre.length * (val ys + c)))
  | ys, suf, pre, ypre, c, 0, _, _, _, _, _, _, _, hk, _ => by omega
  | [], suf, pre, ypre, c, k + 1, hp, hs, hy, hc, hyl, hle, hl, hk, hv => by
    rw [val_nil, Nat.zero_add] at hv ⊢
    simp only [List.length_nil] at hk
    rw [nsum_L14, nsum_b14, cond_dec, List.append_nil, hyl, if_neg (by omega)]
    exact nsum_carry suf pre c k hp hs hc hl (by omega) hv
  | w :: ys, [], pre, ypre, c, k + 1, hp, hs, hy, hc, hyl, hle, hl, hk, hv => by simp at hle
  | w :: ys, s :: suf, pre, ypre, c, k + 1, hp, hs, hy, hc, hyl, hle, hl, hk, hv => by
    rw [W64.cons] at hs hy
    simp only [List.length_cons] at hl hk hle
    have hlen : pre.length < (pre ++ s :: suf).length := by simp
    have hleny : pre.length < (ypre ++ w :: ys).length := by simp [hyl]
    have hw : Wd w := hy.1
    have hsw : Wd s := hs.1
    have hadd : wAddF (s, w, (c : Int)) = some ((s + w + c) % 18446744073709551616, (s + w + c) / 18446744073709551616) := wAddF_some hsw hw (by omega) (by omega)
    rw [nsum_L14, nsum_b14, cond_dec, if_pos (by omega), inR hleny, inR hlen, cond_t, cond_t, Int.toNat_natCast, rdN_mid rfl, rdI_mid hyl, hadd, Option.bind_some, cond_t, inc (by omega), wrI_mid rfl]
    have hc' : (s + w + c) / 18446744073709551616 = (((s + w + c) / 18446744073709551616).toNat : Int) := by omega
    have hst := carry_step (pre := pre) (suf := suf) (s := s) (s' := (s + w + c) % 18446744073709551616) (c' := ((s + w + c) / 18446744073709551616).toNat) (w := w.toNat) (c := c) (by omega)
    have hl2 : (pre ++ s :: suf).length = (pre ++ [(s + w + c) % 18446744073709551616] ++ suf).length := by simp
    have hv2 : val (pre ++ s :: suf) + 18446744073709551616 ^ pre.length * (val (w :: ys) + c) = val ((pre ++ [(s + w + c) % 18446744073709551616]) ++ suf) + 18446744073709551616 ^ (pre ++ [(s + w + c) % 18446744073709551616]).length * (val ys + ((s + w + c) / 18446744073709551616).toNat) := by
      rw [Nat.mul_add _ (val ys), Nat.add_comm (_ * val ys), ← Nat.add_assoc, ← hst, val_cons, snoc_len, Nat.pow_succ]
      grind
    dsimp only
    rw [snoc_app pre suf, snoc_app ypre ys, hc', ← snoc_len pre ((s + w + c) % 18446744073709551616)]
    rw [hv2, hl2] at hv
    rw [hv2, hl2]
    exact nsum_loop ys suf (pre ++ [(s + w + c) % 18446744073709551616]) (ypre ++ [w]) _ k (W64.append.2 ⟨hp, by rw [W64.cons]; exact ⟨by omega, W64.nil⟩⟩) hs.2 hy.2 (by omega) (by rw [snoc_len, snoc_len, hyl]) (by omega) (by rw [snoc_len]; omega) (by omega) hv
theorem splice_front {a : List Int} {n : Nat} (h : a.length ≤ n) : splice (List.replicate n 0) 0 (List.take (List.length (List.replicate n (0 : Int))) a) = a ++ List.replicate (n - a.length) 0 := by
  simp only [splice, List.length_replicate, List.take_zero, List.nil_append]
  rw [List.take_of_length_le h, List.drop_replicate, Nat.zero_add]
theorem val_app_zeros (a : List Int) (n : Nat) : val (a ++ List.replicate n 0) = val a := by
  rw [val_append, val_rep, Nat.mul_zero, Nat.add_zero]
theorem nsum_core {a b : List Int} (ha : U a) (hb : U b) (hle : b.length ≤ a.length) (n : Int) (hn : n = addI .i64 ((a.length : Nat) : Int) 1) : ∃ k, ∀ k', k ≤ k' → nsum_L14 k' b 0 b ((b.length : Nat) : Int) 0 (splice (List.replicate (Int.toNat n) 0) 0 (List.take (List.length (List.replicate (Int.toNat n) (0 : Int))) a)) = some (dig (a.length + 1) (val a + val b)) := by
  refine ⟨b.length + (a.length + 1) + 2, fun k' hk => ?_⟩
  have h1 := ha.2
  have hva := val_lt ha.1
  have hvb := val_lt hb.1
  have hpow : 18446744073709551616 ^ b.length ≤ 18446744073709551616 ^ a.length := Nat.pow_le_pow_right (by omega) hle
  rw [hn, inc (by omega), Int.toNat_natCast, splice_front (by omega), show a.length + 1 - a.length = 1 from by omega]
  have hlen : (a ++ List.replicate 1 (0 : Int)).length = a.length + 1 := by simp
  have hv := val_app_zeros a 1
  have := nsum_loop b (a ++ List.replicate 1 0) [] [] 0 k' W64.nil (W64.append.2 ⟨ha.1, W64.rep 1⟩) hb.1 (by omega) rfl (by rw [hlen]; omega) (by rw [hlen]; simp; omega) (by rw [hlen]; omega) (by
    rw [List.nil_append, hlen, hv, List.length_nil, Nat.pow_zero, Nat.pow_succ]
    omega)
  rw [List.nil_append, List.nil_append, hlen, hv, List.length_nil, Nat.pow_zero, Nat.one_mul, Nat.add_zero] at this
  exact this
theorem nsum_law {a b t : List Int} (h : nsumF (a, b) = some t) : ∃ k : Nat, nsum_b0 (nsum_L14 k) (nsum_L24 k) a b = some t := by
  obtain ⟨⟨ha, hb⟩, rfl⟩ := gu_eq.1 h
  dsimp only at *
  have h1 := ha.2
  have h2 := hb.2
  unfold nsum_b0
  by_cases hc : a.length < b.length
  · obtain ⟨k, hk⟩ := nsum_core hb ha (by omega) _ rfl
    refine ⟨k, ?_⟩
    have e := inc (i := b.length) (by omega)
    rw [cond_dec, if_pos (by omega)]
    have e1 : decide ((0 : Int) ≤ addI .i64 ((b.length : Nat) : Int) 1) = true := by rw [e, decide_eq_true_eq]; omega
    have e2 : decide (addI .i64 ((b.length : Nat) : Int) 1 * 8 ≤ 281474976710656) = true := by rw [e, decide_eq_true_eq]; omega
    rw [e1, e2, cond_t, cond_t]
    refine (hk k (Nat.le_refl _)).trans ?_
    rw [Nat.add_comm (val b), show max a.length b.length = b.length from by omega]
  · obtain ⟨k, hk⟩ := nsum_core ha hb (by omega) _ rfl
    refine ⟨k, ?_⟩
    have e := inc (i := a.length) (by omega)
    rw [cond_dec, if_neg (by omega)]
    have e1 : decide ((0 : Int) ≤ addI .i64 ((a.length : Nat) : Int) 1) = true := by rw [e, decide_eq_true_eq]; omega
    have e2 : decide (addI .i64 ((a.length : Nat) : Int) 1 * 8 ≤ 281474976710656) = true := by rw [e, decide_eq_true_eq]; omega
    rw [e1, e2, cond_t, cond_t]
    refine (hk k (Nat.le_refl _)).trans ?_
    rw [show max a.length b.length = a.length from by omega]
theorem sum_lt {a b : List Int} (ha : W64 a) (hb : W64 b) : val a + val b < 18446744073709551616 ^ (max a.length b.length + 1) := by
  have h1 := val_lt ha
  have h2 := val_lt hb
  have p1 : 18446744073709551616 ^ a.length ≤ 18446744073709551616 ^ (max a.length b.length) := Nat.pow_le_pow_right (by omega) (by omega)
  have p2 : 18446744073709551616 ^ b.length ≤ 18446744073709551616 ^ (max a.length b.length) := Nat.pow_le_pow_right (by omega) (by omega)
  rw [Nat.pow_succ]
  omega
theorem nBoundF_U {l : List Int} (h : U l) : nBoundF l = some (bnd (val l)) := gu_pos h
theorem nAdd_law {a b : List Int} {t : List Int × Int} (h : nAddF (a, b) = some t) : ∃ k : Nat, nAdd_b0 a b = some t := by
  obtain ⟨⟨ha, hb⟩, rfl⟩ := gu_eq.1 h
  dsimp only at *
  refine ⟨0, ?_⟩
  have h1 := ha.2
  have h2 := hb.2
  rw [nAdd_b0, nsumF, gu_pos ⟨ha.U, hb.U⟩, Option.bind_some]
  dsimp only
  have hU : U (dig (max a.length b.length + 1) (val a + val b)) := ⟨dig_ok _ _, by rw [dig_len]; omega⟩
  rw [nBoundF_U hU, Option.bind_some, val_dig _ _ (sum_lt ha.1 hb.1)]
theorem val_drop (b : List Int) (i : Nat) : val (b.drop i) = (b.getD i 0).toNat + 18446744073709551616 * val (b.drop (i + 1)) := by
  rcases Nat.lt_or_ge i b.length with h | h
  · rw [List.drop_eq_getElem_cons h, val_cons, List.getD_eq_getElem?_getD, List.getElem?_eq_getElem h]
    rfl
  · rw [List.drop_of_length_le h, List.drop_of_length_le (by omega), List.getD_eq_getElem?_getD, List.getElem?_eq_none h]
    rfl
theorem nSub_loop {b : List Int} (hb : V b) : ∀ (suf pre : List Int) (c R k : Nat), W64 pre → W64 suf → c ≤ 1 → pre.length + suf.length ≤ 17592186044416 → suf.length + 1 ≤ k → val suf = R + val (b.drop pre.length) + c →
    nSub_L12 k b (c : Int) ((pre ++ suf).length : Int) (pre.length : Int) (pre ++ suf) = some (bnd (val pre + 18446744073709551616 ^ pre.length * R))
  | suf, pre, c, R, 0, _, _, _, _, hk, _ => by omega
  | [], pre, c, R, k + 1, hp, hs, hc, hl, hk, hv => by
    rw [val_nil] at hv
    obtain rfl : R = 0 := by omega
    have hU : U (pre ++ []) := ⟨by rw [List.append_nil]; exact hp, by rw [List.append_nil]; omega⟩
    rw [nSub_L12, nSub_b12, cond_dec, if_neg (by simp), nBoundF_U hU, Option.bind_some, Nat.mul_zero, Nat.add_zero, List.append_nil]
  | s :: suf, pre, c, R, k + 1, hp, hs, hc, hl, hk, hv => by
    rw [W64.cons] at hs
    simp only [List.length_cons] at hl hk
    have hlen : pre.length < (pre ++ s :: suf).length := by simp
    have hsw : Wd s := hs.1
    have hyw : Wd (b.getD pre.length 0) := hb.1.get _
    have hbl := hb.2
    have hsub : ∀ y, Wd y → wSubF (s, y, (c : Int)) = some ((s - y - c) % 18446744073709551616, if s < y + c then 1 else 0) := by
      intro y hy
      have hcw : Wd (c : Int) := ⟨by omega, by omega⟩
      rw [wSubF, gu_pos ⟨hsw, hy, hcw⟩]
      dsimp only
      rw [show (c : Int) % 2 = c from by omega]
    have key : nSub_L12 (k + 1) b (c : Int) ((pre ++ s :: suf).length : Int) (pre.length : Int) (pre ++ s :: suf) = nSub_L12 k b (if s < b.getD pre.length 0 + c then 1 else 0) ((pre ++ s :: suf).length : Int) ((pre.length + 1 : Nat) : Int) (pre ++ ((s - b.getD pre.length 0 - c) % 18446744073709551616) :: suf) := by
      rw [nSub_L12, nSub_b12, cond_dec, if_pos (by omega), cond_dec]
      by_cases hlt : pre.length < b.length
      · rw [if_pos (by omega), inR hlt, inR hlen, cond_t, cond_t, Int.toNat_natCast, rdN_mid rfl, rdI_nat, hsub _ hyw, Option.bind_some, cond_t, inc (by omega), wrI_mid rfl]
      · have hz : b.getD pre.length 0 = 0 := by
          rw [List.getD_eq_getElem?_getD, List.getElem?_eq_none (by omega)]
          rfl
        rw [if_neg (by omega), inR hlen, cond_t, Int.toNat_natCast, rdN_mid rfl, hsub 0 Wd_zero, Option.bind_some, cond_t, inc (by omega), wrI_mid rfl, hz]
    rw [key]
    rw [val_cons, val_drop] at hv
    generalize b.getD pre.length 0 = y at *
    unfold Wd at hsw hyw
    have hc' : (if s < y + (c : Int) then (1 : Int) else 0) = ((if s < y + (c : Int) then 1 else 0 : Nat) : Int) := by split <;> rfl
    have hl2 : (pre ++ s :: suf).length = (pre ++ [(s - y - c) % 18446744073709551616] ++ suf).length := by simp
    rw [hc', hl2, snoc_app pre suf, ← snoc_len pre ((s - y - c) % 18446744073709551616)]
    rw [nSub_loop hb suf (pre ++ [(s - y - c) % 18446744073709551616]) _ (R / 18446744073709551616) k (W64.append.2 ⟨hp, by rw [W64.cons]; exact ⟨by omega, W64.nil⟩⟩) hs.2 (by split <;> omega) (by rw [snoc_len]; omega) (by omega) (by rw [snoc_len]; split <;> omega)]
    congr 2
    have hR : R = ((s - y - c) % 18446744073709551616).toNat + 18446744073709551616 * (R / 18446744073709551616) := by omega
    rw [val_snoc, snoc_len, Nat.pow_succ]
    generalize R / 18446744073709551616 = Q at *
    rw [hR]
    grind
theorem nSub_law {a b : List Int} {t : List Int × Int} (h : nSubF (a, b) = some t) : ∃ k : Nat, nSub_b0 (nSub_L12 k) a b = some t := by
  obtain ⟨⟨ha, hb⟩, rfl⟩ := gu_eq.1 h
  dsimp only at *
  refine ⟨a.length + 1, ?_⟩
  have hl := ha.2
  have hs := sz_le a
  have hcl := len_can_val ha.1
  rw [nSub_b0, nCmpF, gu_pos ⟨ha.U, hb.U⟩, Option.bind_some, cond_dec]
  dsimp only
  unfold sgn
  by_cases hc : val a < val b
  · rw [if_pos (by rw [if_pos hc]; omega), if_pos hc]
  · rw [if_neg (by rw [if_neg hc]; split <;> omega), if_neg hc, nNormF_U ha.U, Option.bind_some]
    have := nSub_loop hb (can (val a)) [] 0 (val a - val b) (a.length + 1) W64.nil (can_ok _) (by omega) (by simp; omega) (by omega) (by rw [val_can]; simp; omega)
    rw [List.nil_append, val_nil, List.length_nil, Nat.pow_zero, Nat.one_mul, Nat.zero_add] at this
    exact this
theorem nsum_ok : CtrOk Go.Proofs.Tryz.prog 109 (mkF [.sl (.int .u64), .sl (.int .u64)] [.sl (.int .u64)] nsumF) := by
  refine mkF_ok (c := bodyOf Go.Proofs.Tryz.f109) (tab := S.tab) (cts := [(117, mkF [.int .u64, .int .u64, .int .u64] [.int .u64, .int .u64] wAddF)]) (res := [4]) tab_ok hm ⟨wAdd_ok, trivial⟩ Go.Proofs.Tryz.func109 (by kernel_rfl) (by kernel_rfl) (by kernel_rfl) (by kernel_rfl) (by kernel_rfl) ?_
  rintro ⟨a, b⟩ t h
  obtain ⟨k, hk⟩ := nsum_law h
  exact ⟨nsum_h, 3000, k, (nsum_ev k a b).trans hk⟩
theorem nAdd_ok : CtrOk Go.Proofs.Tryz.prog 90 (mkF [.sl (.int .u64), .sl (.int .u64)] [.sl (.int .u64), .int .i64] nAddF) := by
  refine mkF_ok (c := bodyOf Go.Proofs.Tryz.f90) (tab := S.tab) (cts := [(109, mkF [.sl (.int .u64), .sl (.int .u64)] [.sl (.int .u64)] nsumF), (102, mkF [.sl (.int .u64)] [.sl (.int .u64), .int .i64] nBoundF)]) (res := [4, 5]) tab_ok hm ⟨nsum_ok, nBound_ok, trivial⟩ Go.Proofs.Tryz.func90 (by kernel_rfl) (by kernel_rfl) (by kernel_rfl) (by kernel_rfl) (by kernel_rfl) ?_
  rintro ⟨a, b⟩ t h
  obtain ⟨k, hk⟩ := nAdd_law h
  exact ⟨nAdd_h, 3000, k, (nAdd_ev k a b).trans hk⟩
theorem nSub_ok : CtrOk Go.Proofs.Tryz.prog 92 (mkF [.sl (.int .u64), .sl (.int .u64)] [.sl (.int .u64), .int .i64] nSubF) := by
  refine mkF_ok (c := bodyOf Go.Proofs.Tryz.f92) (tab := S.tab) (cts := [(91, mkF [.sl (.int .u64), .sl (.int .u64)] [.int .i64] nCmpF), (98, mkN [.sl (.int .u64)] 22 .u64 nNormF), (111, mkF [.int .u64, .int .u64, .int .u64] [.int .u64, .int .u64] wSubF), (102, mkF [.sl (.int .u64)] [.sl (.int .u64), .int .i64] nBoundF)]) (res := [4, 5]) tab_ok hm ⟨nCmp_ok, nNorm_ok, wSub_ok, nBound_ok, trivial⟩ Go.Proofs.Tryz.func92 (by kernel_rfl) (by kernel_rfl) (by kernel_rfl) (by kernel_rfl) (by kernel_rfl) ?_
  rintro ⟨a, b⟩ t h
  obtain ⟨k, hk⟩ := nSub_law h
  exact ⟨nSub_h, 3000, k, (nSub_ev k a b).trans hk⟩
end Go.RX.S
