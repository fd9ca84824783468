/- The functions of nat that read: their contracts. -/
import Derived.Test.YtciapojlnhiggaaGreatZUa
set_option linter.unusedVariables false
set_option linter.unusedSimpArgs false
namespace Go.RX.S
open Go Go.RX
theorem sz_snoc_zero : ∀ (p : List Int), sz (p ++ [0]) = sz p
  | [] => rfl
  | x :: xs => by simp only [List.cons_append, sz, sz_snoc_zero xs]
theorem sz_snoc_ne {x : Int} (h : x ≠ 0) : ∀ (p : List Int), sz (p ++ [x]) = p.length + 1
  | [] => by simp [sz, h]
  | y :: ys => by simp only [List.cons_append, sz, sz_snoc_ne h ys, List.length_cons]; simp
theorem take_snoc {l : List Int} {i : Nat} (h : i < l.length) : l.take (i + 1) = l.take i ++ [l.getD i 0] := by
  rw [List.take_add_one, List.getD_eq_getElem?_getD, List.getElem?_eq_getElem h]
  rfl
theorem nSize_loop {l : List Int} (hl : l.length < 4611686018427387904) : ∀ (i k : Nat), i ≤ l.length → i + 1 ≤ k → nSize_L4 k l (i : Int) = some ((sz (l.take i) : Nat) : Int)
  | i, 0, hi, hk => by omega
  | 0, k + 1, hi, hk => by
    rw [nSize_L4, nSize_b4, cond_dec, if_neg (by omega)]
    simp [sz]
  | i + 1, k + 1, hi, hk => by
    have e : subI .i64 ((i + 1 : Nat) : Int) 1 = (i : Int) := by
      rw [subI_i64 (by omega)]
      omega
    rw [nSize_L4, nSize_b4, e, inR (by omega), cond_dec, if_pos (by omega), cond_t, cond_dec, rdI_nat, take_snoc (by omega)]
    split
    · rename_i h0
      rw [h0, sz_snoc_zero]
      exact nSize_loop hl i k (by omega) (by omega)
    · rename_i h0
      rw [sz_snoc_ne h0, List.length_take, Nat.min_eq_left (by omega)]
theorem nSize_law {a : List Int} {t : Int} (h : nSizeF a = some t) : ∃ k : Nat, nSize_b0 (nSize_L4 k) a = some t := by
  obtain ⟨ha, rfl⟩ := gu_eq.1 h
  refine ⟨a.length + 1, ?_⟩
  have := ha.2
  rw [nSize_b0, nSize_loop (by omega) a.length _ (Nat.le_refl _) (Nat.le_refl _), List.take_length]
theorem nSizeF_U {l : List Int} (h : U l) : nSizeF l = some (sz l : Int) := gu_pos h
theorem nNorm_law {a t : List Int} (h : nNormF a = some t) : ∃ k : Nat, nNorm_b0 a = some t := by
  obtain ⟨ha, rfl⟩ := gu_eq.1 h
  refine ⟨0, ?_⟩
  have h1 := ha.2
  have h2 := sz_le a
  rw [nNorm_b0, nSizeF_U ha, Option.bind_some]
  simp only [cond_dec]
  rw [if_pos (by omega)]
  have : (decide (((sz a : Nat) : Int) * 8 ≤ 281474976710656)) = true := by
    rw [decide_eq_true_eq]
    omega
  rw [this, cond_t, can_val ha.1]
  congr 1
  simp only [Int.toNat_natCast, List.length_replicate, splice]
  rw [List.length_take, Nat.min_eq_left h2, List.drop_replicate]
  simp
theorem val_take_sz {l : List Int} (h : W64 l) : val (l.take (sz l)) = val l := by rw [← can_val h, val_can]
theorem sz_le_iff {l : List Int} (h : W64 l) (n : Nat) : sz l ≤ n ↔ val l < 18446744073709551616 ^ n := by
  rw [← len_can_val h]
  exact can_len_iff n _
theorem nBound_law {a : List Int} {t : List Int × Int} (h : nBoundF a = some t) : ∃ k : Nat, nBound_b0 a = some t := by
  obtain ⟨ha, rfl⟩ := gu_eq.1 h
  refine ⟨0, ?_⟩
  have h2 := sz_le a
  have h3 := sz_le_iff ha.1 lw
  have hw := lw_eq
  rw [nBound_b0, nSizeF_U ha, Option.bind_some]
  simp only [cond_dec]
  unfold bnd Lim
  by_cases hc : sz a ≤ lw
  · rw [if_pos (by omega), if_pos (h3.1 hc)]
    have e1 : decide (((sz a : Nat) : Int) ≤ ((sz a : Nat) : Int)) = true := by simp
    have e2 : decide (((sz a : Nat) : Int) ≤ ((a.length : Nat) : Int)) = true := by
      rw [decide_eq_true_eq]
      omega
    rw [if_pos (by omega), e1, cond_t, e2, cond_t, can_val ha.1, Int.toNat_natCast]
  · rw [if_neg (by omega), if_neg (fun h => hc (h3.2 h))]
theorem nNormF_U {l : List Int} (h : U l) : nNormF l = some (can (val l)) := gu_pos h
theorem val_one {a : Int} : val [a] = a.toNat := by simp [val_cons]
theorem U_one {a : Int} (h : Wd a) : U [a] := ⟨by rw [W64.cons]; exact ⟨h, W64.nil⟩, by simp⟩
theorem nFrom_law {a : Int} {t : List Int} (h : nFromF a = some t) : ∃ k : Nat, nFrom_b0 a = some t := by
  obtain ⟨ha, rfl⟩ := gu_eq.1 h
  refine ⟨0, ?_⟩
  rw [nFrom_b0, nNormF_U (U_one ha), Option.bind_some, val_one]
theorem getD_take_sz {l : List Int} (h : W64 l) {i : Nat} (hi : i < sz l) : l.getD i 0 = (can (val l)).getD i 0 := by
  rw [can_val h, List.getD_eq_getElem?_getD, List.getD_eq_getElem?_getD, List.getElem?_take, if_pos hi]
theorem nWord_law {a : List Int} {t : Int × Bool} (h : nWordF a = some t) : ∃ k : Nat, nWord_b0 a = some t := by
  obtain ⟨ha, rfl⟩ := gu_eq.1 h
  refine ⟨0, ?_⟩
  have h2 := sz_le a
  have h0 := sz_le_iff ha.1 0
  have h1 := sz_le_iff ha.1 1
  rw [Nat.pow_zero] at h0
  rw [Nat.pow_one] at h1
  rw [nWord_b0, nSizeF_U ha, Option.bind_some]
  simp only [cond_dec]
  by_cases c0 : sz a = 0
  · rw [if_pos (by omega), if_pos (by omega)]
    have : val a = 0 := by omega
    rw [this]
    rfl
  · rw [if_neg (by omega)]
    by_cases c1 : sz a = 1
    · have hin := inR (i := 0) (n := a.length) (by omega)
      rw [show ((0 : Nat) : Int) = 0 from rfl] at hin
      have hrd := rdI_nat a 0
      rw [show ((0 : Nat) : Int) = 0 from rfl] at hrd
      rw [if_pos (by omega), if_pos (by omega), hin, cond_t, hrd, getD_take_sz ha.1 (by omega), can_pos (by omega)]
      simp only [List.getD_cons_zero]
      congr 2
      omega
    · rw [if_neg (by omega), if_neg (by omega)]
theorem val_take_succ {l : List Int} {i : Nat} (h : i < l.length) : val (l.take (i + 1)) = val (l.take i) + 18446744073709551616 ^ i * (l.getD i 0).toNat := by
  rw [take_snoc h, val_append, val_one, List.length_take, Nat.min_eq_left (by omega)]
theorem val_take_lt {l : List Int} (h : W64 l) (i : Nat) : val (l.take i) < 18446744073709551616 ^ i := by
  have := val_lt (h.take i)
  exact Nat.lt_of_lt_of_le this (Nat.pow_le_pow_right (by omega) (by rw [List.length_take]; omega))
theorem top_lt {p a b x y : Nat} (ha : a < p) (h : x < y) : a + p * x < b + p * y := by
  have : p * (x + 1) ≤ p * y := Nat.mul_le_mul_left _ h
  rw [Nat.mul_succ] at this
  omega
theorem nCmp_loop {a b : List Int} (ha : W64 a) (hb : W64 b) (hl : a.length < 4611686018427387904) : ∀ (i k : Nat), i ≤ a.length → i ≤ b.length → i + 1 ≤ k → nCmp_L14 k a b ((i : Int) - 1) = some (sgn (val (a.take i)) (val (b.take i)))
  | i, 0, _, _, hk => by omega
  | 0, k + 1, _, _, hk => by
    rw [nCmp_L14, nCmp_b14, cond_dec, if_neg (by omega)]
    rfl
  | i + 1, k + 1, h1, h2, hk => by
    have e : ((i + 1 : Nat) : Int) - 1 = (i : Int) := by omega
    have e2 : subI .i64 (i : Int) 1 = (i : Int) - 1 := subI_i64 (by omega)
    rw [e, nCmp_L14, nCmp_b14, cond_dec, if_pos (by omega), inR (by omega), inR (by omega), cond_t, cond_t, e2, rdI_nat, rdI_nat]
    rw [val_take_succ (by omega), val_take_succ (by omega), nCmp_loop ha hb hl i k (by omega) (by omega) (by omega)]
    have ga := ha.get i
    have gb := hb.get i
    have la := val_take_lt ha i
    have lb := val_take_lt hb i
    generalize a.getD i 0 = x at *
    generalize b.getD i 0 = y at *
    have hw : wCmpF (0, x, 0, y) = some (if x < y then -1 else if x = y then 0 else 1) := by
      rw [wCmpF, gu_pos trivial]
      simp
    rw [hw, Option.bind_some]
    unfold sgn
    rcases Int.lt_trichotomy x y with h | h | h
    · rw [if_pos h, if_pos (top_lt la (by omega))]
      rfl
    · subst h
      rw [if_neg (by omega), if_pos rfl]
      have e1 : (val (a.take i) + 18446744073709551616 ^ i * x.toNat < val (b.take i) + 18446744073709551616 ^ i * x.toNat) ↔ val (a.take i) < val (b.take i) := by omega
      have e2 : (val (a.take i) + 18446744073709551616 ^ i * x.toNat = val (b.take i) + 18446744073709551616 ^ i * x.toNat) ↔ val (a.take i) = val (b.take i) := by omega
      simp only [e1, e2]
      rfl
    · have := top_lt (p := 18446744073709551616 ^ i) (b := val (a.take i)) lb (show y.toNat < x.toNat by omega)
      have n1 : ¬ val (a.take i) + 18446744073709551616 ^ i * x.toNat < val (b.take i) + 18446744073709551616 ^ i * y.toNat := by omega
      have n2 : ¬ val (a.take i) + 18446744073709551616 ^ i * x.toNat = val (b.take i) + 18446744073709551616 ^ i * y.toNat := by omega
      rw [if_neg n1, if_neg n2, if_neg (show ¬ x < y by omega), if_neg (show ¬ x = y by omega)]
      rfl
theorem nCmp_law {a b : List Int} {t : Int} (h : nCmpF (a, b) = some t) : ∃ k : Nat, nCmp_b0 (nCmp_L14 k) a b = some t := by
  obtain ⟨⟨ha, hb⟩, rfl⟩ := gu_eq.1 h
  dsimp only at *
  refine ⟨a.length + 1, ?_⟩
  have h1 := ha.2
  have h2 := sz_le a
  have h3 := sz_le b
  rw [nCmp_b0, nSizeF_U ha, nSizeF_U hb, Option.bind_some, Option.bind_some, cond_ndec, cond_dec]
  have key : ∀ {x y : List Int}, W64 x → W64 y → sz x < sz y → val x < val y := by
    intro x y hx hy hlt
    have h1 := (sz_le_iff hx (sz x)).1 (Nat.le_refl _)
    rcases Nat.lt_or_ge (val x) (val y) with h | h
    · exact h
    · have := (sz_le_iff hy (sz x)).2 (by omega)
      omega
  rcases Nat.lt_trichotomy (sz a) (sz b) with hc | hc | hc
  · rw [if_neg (by omega), if_pos (by omega), sgn, if_pos (key ha.1 hb.1 hc)]
  · rw [if_pos (by omega), subI_i64 (by omega), nCmp_loop ha.1 hb.1 (by omega) (sz a) _ h2 (by omega) (by omega), val_take_sz ha.1, hc, val_take_sz hb.1]
  · have := key hb.1 ha.1 hc
    rw [if_neg (by omega), if_neg (by omega), sgn, if_neg (by omega), if_neg (by omega)]
theorem pow64 (n : Nat) : 18446744073709551616 ^ n = 2 ^ (64 * n) := by
  rw [Nat.pow_mul]
theorem blen_top {n x y : Nat} (hx : x < 18446744073709551616 ^ n) (hy : y ≠ 0) : blen (x + 18446744073709551616 ^ n * y) = 64 * n + blen y := by
  rw [pow64] at *
  have h1 := blen_lt y
  have h2 := blen_ge hy
  have h3 : blen y ≠ 0 := fun e => by
    rw [e, Nat.pow_zero] at h1
    omega
  refine blen_unique ?_ (.inr ?_)
  · rw [Nat.pow_add]
    have : 2 ^ (64 * n) * (y + 1) ≤ 2 ^ (64 * n) * 2 ^ blen y := Nat.mul_le_mul_left _ h1
    rw [Nat.mul_succ] at this
    omega
  · rw [show 64 * n + blen y - 1 = 64 * n + (blen y - 1) from by omega, Nat.pow_add]
    have := Nat.mul_le_mul_left (2 ^ (64 * n)) h2
    omega
theorem V_len {a : List Int} (h : V a) : a.length ≤ 17592186044416 := h.2
theorem nBits_law {a : List Int} {t : Int} (h : nBitsF a = some t) : ∃ k : Nat, nBits_b0 a = some t := by
  obtain ⟨ha, rfl⟩ := gu_eq.1 h
  refine ⟨0, ?_⟩
  have h1 := ha.2
  have h2 := sz_le a
  rw [nBits_b0, nSizeF_U ha.U, Option.bind_some, cond_dec]
  by_cases c0 : sz a = 0
  · rw [if_pos (by omega), (val_zero ha.1).2 c0]
    rfl
  · rw [if_neg (by omega)]
    obtain ⟨n, hn⟩ : ∃ n, sz a = n + 1 := ⟨sz a - 1, by omega⟩
    have e : subI .i64 ((sz a : Nat) : Int) 1 = ((n : Nat) : Int) := by
      rw [subI_i64 (by omega)]
      omega
    have g : Wd (a.getD n 0) := ha.1.get n
    have g' := ha.1.get n
    have htop : a.getD n 0 ≠ 0 := by
      rw [getD_take_sz ha.1 (by omega)]
      exact can_top n _ (by rw [len_can_val ha.1, hn])
    have hv : val a = val (a.take n) + 18446744073709551616 ^ n * (a.getD n 0).toNat := by
      rw [← val_take_sz ha.1, hn, val_take_succ (by omega)]
    have hb : blen (val a) = 64 * n + blen (a.getD n 0).toNat := by
      rw [hv, blen_top (val_take_lt ha.1 n) (by omega)]
    have hb64 : blen (a.getD n 0).toNat ≤ 64 := (blen_le_iff 64 _).2 (by omega)
    rw [e, inR (by omega), cond_t, rdI_nat, wLenF, gu_pos g, Option.bind_some, hb, mulI_i64 (by omega), addI_i64 (by omega)]
    congr 1
theorem digit_val : ∀ {l : List Int} (i : Nat), W64 l → val l / 18446744073709551616 ^ i % 18446744073709551616 = (l.getD i 0).toNat
  | [], i, _ => by simp
  | x :: xs, 0, h => by
    rw [W64.cons] at h
    rw [val_cons, Nat.pow_zero, Nat.div_one, List.getD_cons_zero]
    omega
  | x :: xs, i + 1, h => by
    rw [W64.cons] at h
    rw [val_cons, List.getD_cons_succ, ← digit_val i h.2, Nat.pow_succ, Nat.mul_comm (18446744073709551616 ^ i), ← Nat.div_div_eq_div_mul]
    congr 2
    omega
theorem bit_of {v r : Nat} (hr : r < 64) : v % 18446744073709551616 / 2 ^ r % 2 = v / 2 ^ r % 2 := by
  have h1 : (18446744073709551616 : Nat) = 2 ^ r * (2 * 2 ^ (63 - r)) := by
    rw [← Nat.pow_succ', ← Nat.pow_add, show r + (63 - r).succ = 64 from by omega]
  have h2 : v = v % 18446744073709551616 + 18446744073709551616 * (v / 18446744073709551616) := by omega
  generalize v % 18446744073709551616 = a at *
  generalize v / 18446744073709551616 = b at *
  rw [h2, h1, Nat.mul_assoc, Nat.add_mul_div_left _ _ (Nat.pow_pos (by omega)), Nat.mul_assoc]
  omega
theorem tdiv64 {n : Nat} (h : n ≤ 9223372036854775807) : divI .i64 (n : Int) 64 = ((n / 64 : Nat) : Int) := by
  rw [divI, IntWalk.i64_quo _ _ (by omega)]
  omega
theorem tmod64 {n : Nat} : remI (n : Int) 64 = ((n % 64 : Nat) : Int) := by
  rw [remI, Int.tmod_eq_emod_of_nonneg (by omega)]
  omega
theorem tz_low : ∀ (m x y : Nat), 0 < x → x < 2 ^ m → tz (x + 2 ^ m * y) = tz x
  | 0, x, y, h0, h => by simp at h; omega
  | m + 1, x, y, h0, h => by
    rw [Nat.pow_succ] at h ⊢
    have e : x + 2 ^ m * 2 * y = x + 2 * (2 ^ m * y) := by grind
    rw [e]
    rcases Nat.mod_two_eq_zero_or_one x with h1 | h1
    · rw [tz_even (a := x) (by omega) h1, tz_even (by omega) (by omega), show (x + 2 * (2 ^ m * y)) / 2 = x / 2 + 2 ^ m * y from by omega, tz_low m (x / 2) y (by omega) (by omega)]
    · rw [tz_odd h1, tz_odd (by omega)]
theorem nSize_ok : CtrOk Go.Proofs.Tryz.prog 99 (mkF [.sl (.int .u64)] [.int .i64] nSizeF) := by
  refine mkF_ok (c := bodyOf Go.Proofs.Tryz.f99) (tab := S.tab) (cts := []) (res := [2]) tab_ok hm trivial Go.Proofs.Tryz.func99 (by kernel_rfl) (by kernel_rfl) (by kernel_rfl) (by kernel_rfl) (by kernel_rfl) ?_
  rintro a t h
  obtain ⟨k, hk⟩ := nSize_law h
  exact ⟨nSize_h, 3000, k, (nSize_ev k a).trans hk⟩
theorem nNorm_ok : CtrOk Go.Proofs.Tryz.prog 98 (mkN [.sl (.int .u64)] 22 .u64 nNormF) := by
  refine mkN_ok (c := bodyOf Go.Proofs.Tryz.f98) (tab := S.tab) (cts := [(99, mkF [.sl (.int .u64)] [.int .i64] nSizeF)]) (res := [2]) rfl tab_ok hm ⟨nSize_ok, trivial⟩ Go.Proofs.Tryz.func98 (by kernel_rfl) (by kernel_rfl) (by kernel_rfl) (by kernel_rfl) (by kernel_rfl) ?_
  rintro a t h
  obtain ⟨k, hk⟩ := nNorm_law h
  exact ⟨nNorm_h, 3000, k, (nNorm_ev k a).trans hk⟩
theorem nBound_ok : CtrOk Go.Proofs.Tryz.prog 102 (mkF [.sl (.int .u64)] [.sl (.int .u64), .int .i64] nBoundF) := by
  refine mkF_ok (c := bodyOf Go.Proofs.Tryz.f102) (tab := S.tab) (cts := [(99, mkF [.sl (.int .u64)] [.int .i64] nSizeF)]) (res := [2, 3]) tab_ok hm ⟨nSize_ok, trivial⟩ Go.Proofs.Tryz.func102 (by kernel_rfl) (by kernel_rfl) (by kernel_rfl) (by kernel_rfl) (by kernel_rfl) ?_
  rintro a t h
  obtain ⟨k, hk⟩ := nBound_law h
  exact ⟨nBound_h, 3000, k, (nBound_ev k a).trans hk⟩
theorem nFrom_ok : CtrOk Go.Proofs.Tryz.prog 76 (mkF [.int .u64] [.sl (.int .u64)] nFromF) := by
  refine mkF_ok (c := bodyOf Go.Proofs.Tryz.f76) (tab := S.tab) (cts := [(98, mkN [.sl (.int .u64)] 22 .u64 nNormF)]) (res := [2]) tab_ok hm ⟨nNorm_ok, trivial⟩ Go.Proofs.Tryz.func76 (by kernel_rfl) (by kernel_rfl) (by kernel_rfl) (by kernel_rfl) (by kernel_rfl) ?_
  rintro a t h
  obtain ⟨k, hk⟩ := nFrom_law h
  exact ⟨nFrom_h, 3000, k, (nFrom_ev k a).trans hk⟩
theorem nWord_ok : CtrOk Go.Proofs.Tryz.prog 104 (mkF [.sl (.int .u64)] [.int .u64, .bool] nWordF) := by
  refine mkF_ok (c := bodyOf Go.Proofs.Tryz.f104) (tab := S.tab) (cts := [(99, mkF [.sl (.int .u64)] [.int .i64] nSizeF)]) (res := [2, 3]) tab_ok hm ⟨nSize_ok, trivial⟩ Go.Proofs.Tryz.func104 (by kernel_rfl) (by kernel_rfl) (by kernel_rfl) (by kernel_rfl) (by kernel_rfl) ?_
  rintro a t h
  obtain ⟨k, hk⟩ := nWord_law h
  exact ⟨nWord_h, 3000, k, (nWord_ev k a).trans hk⟩
theorem nCmp_ok : CtrOk Go.Proofs.Tryz.prog 91 (mkF [.sl (.int .u64), .sl (.int .u64)] [.int .i64] nCmpF) := by
  refine mkF_ok (c := bodyOf Go.Proofs.Tryz.f91) (tab := S.tab) (cts := [(99, mkF [.sl (.int .u64)] [.int .i64] nSizeF), (110, mkF [.int .u64, .int .u64, .int .u64, .int .u64] [.int .i64] wCmpF)]) (res := [4]) tab_ok hm ⟨nSize_ok, wCmp_ok, trivial⟩ Go.Proofs.Tryz.func91 (by kernel_rfl) (by kernel_rfl) (by kernel_rfl) (by kernel_rfl) (by kernel_rfl) ?_
  rintro ⟨a, b⟩ t h
  obtain ⟨k, hk⟩ := nCmp_law h
  exact ⟨nCmp_h, 3000, k, (nCmp_ev k a b).trans hk⟩
theorem nBits_ok : CtrOk Go.Proofs.Tryz.prog 100 (mkF [.sl (.int .u64)] [.int .i64] nBitsF) := by
  refine mkF_ok (c := bodyOf Go.Proofs.Tryz.f100) (tab := S.tab) (cts := [(99, mkF [.sl (.int .u64)] [.int .i64] nSizeF), (113, mkF [.int .u64] [.int .i64] wLenF)]) (res := [2]) tab_ok hm ⟨nSize_ok, wLen_ok, trivial⟩ Go.Proofs.Tryz.func100 (by kernel_rfl) (by kernel_rfl) (by kernel_rfl) (by kernel_rfl) (by kernel_rfl) ?_
  rintro a t h
  obtain ⟨k, hk⟩ := nBits_law h
  exact ⟨nBits_h, 3000, k, (nBits_ev k a).trans hk⟩
end Go.RX.S
