/- The document's numbers by digits of base 65536. -/
import Derived.Test.YtandibmpaamfbaaWa
import Derived.Test.YtandibmpaamfbaaVd
import Derived.Test.YtandibmpaamfbaaTd
set_option linter.unusedVariables false
set_option linter.unusedSimpArgs false
namespace Go.RX.S
open Go Go.RX

theorem b16 : 2 ≤ 65536 := by omega
theorem pow16 (n : Nat) : 65536 ^ (4 * n) = 18446744073709551616 ^ n := by rw [Nat.pow_mul]
theorem pow16b (n : Nat) : 65536 ^ n = 2 ^ (16 * n) := by rw [Nat.pow_mul]
theorem gval_take_succ {b : Nat} (l : List Int) (i : Nat) : gval b (l.take (i + 1)) = gval b (l.take i) + b ^ i * (l.getD i 0).toNat := by
  rcases Nat.lt_or_ge i l.length with h | h
  · rw [take_snoc h, gval_snoc, List.length_take, Nat.min_eq_left (by omega)]
  · rw [List.take_of_length_le (by omega), List.take_of_length_le h, List.getD_eq_getElem?_getD, List.getElem?_eq_none h]
    simp
theorem getD_out {l : List Int} {i : Nat} (h : ¬ i < l.length) : l.getD i 0 = 0 := by
  rw [List.getD_eq_getElem?_getD, List.getElem?_eq_none (by omega)]
  rfl

theorem dcut_down {l : List Int} (hl : l.length ≤ 1000000) : ∀ (i k : Nat), i ≤ l.length → i + 1 ≤ k → dcut_L4 k l (i : Int) = some (l.take (sz (l.take i)))
  | i, 0, _, hk => by omega
  | 0, k + 1, hi, hk => by
    rw [dcut_L4, dcut_b4, cond_dec, if_neg (by omega)]
    have d : (bif decide ((0 : Int) ≤ ((0 : Nat) : Int)) then decide (((0 : Nat) : Int) ≤ ((l.length : Nat) : Int)) else false) = true := by
      rw [cond_dec, if_pos (by omega), decide_eq_true_eq]
      omega
    rw [d, cond_t]
    simp [sz]
  | i + 1, k + 1, hi, hk => by
    have e : subI .i64 ((i + 1 : Nat) : Int) 1 = (i : Int) := by
      rw [subI_i64 (by omega)]
      omega
    have d : (bif decide ((0 : Int) ≤ ((i + 1 : Nat) : Int)) then decide (((i + 1 : Nat) : Int) ≤ ((l.length : Nat) : Int)) else false) = true := by
      rw [cond_dec, if_pos (by omega), decide_eq_true_eq]
      omega
    rw [dcut_L4, dcut_b4, e, inR (by omega), cond_dec, if_pos (by omega), cond_t, cond_dec, rdI_nat, take_snoc (by omega), d, cond_t]
    split
    · rename_i h0
      rw [h0, sz_snoc_zero]
      exact dcut_down hl i k (by omega) (by omega)
    · rename_i h0
      rw [sz_snoc_ne h0, List.length_take, Nat.min_eq_left (by omega), Int.toNat_natCast]
theorem dcut_law {a t : List Int} (h : dcutF a = some t) : ∃ k : Nat, dcut_b0 (dcut_L4 k) a = some t := by
  obtain ⟨ha, rfl⟩ := gu_eq.1 h
  refine ⟨a.length + 1, ?_⟩
  rw [dcut_b0, dcut_down ha a.length _ (Nat.le_refl _) (Nat.le_refl _), List.take_length]
theorem dcutF_ok {l : List Int} (h : Dg 65536 l) (hl : l.length ≤ 1000000) : dcutF l = some (gcan 65536 (gval 65536 l)) := by
  rw [dcutF, gu_pos hl, gcan_val b16 h]

theorem rem16 (n : Nat) : cvI .i64 (remI (n : Int) 65536) = ((n % 65536 : Nat) : Int) := by
  rw [remI, Int.tmod_eq_emod_of_nonneg (by omega), cvI_i64 (by omega)]
  omega
theorem rem16' (n : Nat) : remI (n : Int) 65536 = ((n % 65536 : Nat) : Int) := by
  rw [remI, Int.tmod_eq_emod_of_nonneg (by omega)]
  omega
theorem div16u {n : Nat} (h : n < 18446744073709551616) : divI .u64 (n : Int) 65536 = ((n / 65536 : Nat) : Int) := by
  rw [divI, IntWalk.u64_quo _ _ (by omega)]
  omega
theorem div16 {n : Nat} (h : n ≤ 9223372036854775807) : divI .i64 (n : Int) 65536 = ((n / 65536 : Nat) : Int) := by
  rw [divI, IntWalk.i64_quo _ _ (by omega)]
  omega
theorem digits_loop {x : List Int} (hx : K x) : ∀ (n i k : Nat) (h : List Int), i + n = x.length → n + 1 ≤ k → Dg 65536 h → h.length = 4 * i → gval 65536 h = val (x.take i) → digits_L6 k x (i : Int) h = some (gcan 65536 (val x))
  | n, i, 0, h, _, hk, _, _, _ => by omega
  | 0, i, k + 1, h, hi, hk, hd, hl, hv => by
    have := hx.2
    rw [digits_L6, digits_b6, cond_dec, if_neg (by omega), dcutF_ok hd (by omega), Option.bind_some, hv, List.take_of_length_le (by omega)]
  | n + 1, i, k + 1, h, hi, hk, hd, hl, hv => by
    have hxl := hx.2
    obtain ⟨w, hw, hwl⟩ := Wd.nat (hx.1.get i)
    rw [digits_L6, digits_b6, cond_dec, if_pos (by omega), inR (by omega), cond_t, rdI_nat, hw, rem16, div16u hwl, rem16, div16u (by omega), rem16, div16u (by omega), rem16]
    simp only [List.length_append, List.length_singleton, cond_dec]
    rw [if_pos (by omega), if_pos (by omega), if_pos (by omega), if_pos (by omega), inc (by omega)]
    refine digits_loop hx n (i + 1) k _ (by omega) (by omega) ?_ (by simp; omega) ?_
    · simp only [Dg.append, Dg.cons]
      exact ⟨⟨⟨⟨hd, ⟨by omega, by omega⟩, Dg.nil⟩, ⟨by omega, by omega⟩, Dg.nil⟩, ⟨by omega, by omega⟩, Dg.nil⟩, ⟨by omega, by omega⟩, Dg.nil⟩
    · rw [val_take_succ (by omega), hw, ← hv, gval_snoc, gval_snoc, gval_snoc, gval_snoc]
      simp only [List.length_append, List.length_singleton, hl, Int.toNat_natCast]
      rw [← pow16 i, Nat.pow_add _ (4 * i + 1 + 1) 1, Nat.pow_add _ (4 * i + 1) 1, Nat.pow_add _ (4 * i) 1, Nat.pow_one]
      have e : w = w % 65536 + 65536 * (w / 65536 % 65536) + 4294967296 * (w / 65536 / 65536 % 65536) + 281474976710656 * (w / 65536 / 65536 / 65536 % 65536) := by omega
      generalize w % 65536 = d0 at *
      generalize w / 65536 % 65536 = d1 at *
      generalize w / 65536 / 65536 % 65536 = d2 at *
      generalize w / 65536 / 65536 / 65536 % 65536 = d3 at *
      generalize 65536 ^ (4 * i) = P at *
      rw [e]
      grind
theorem digits_law {a t : List Int} (h : digitsF a = some t) : ∃ k : Nat, digits_b0 (digits_L6 k) a = some t := by
  obtain ⟨ha, rfl⟩ := gu_eq.1 h
  exact ⟨a.length + 1, digits_loop ha a.length 0 (a.length + 1) [] (by omega) (by omega) Dg.nil rfl rfl⟩
theorem K_len {x : List Int} (h : K x) : (gcan 65536 (val x)).length ≤ 4000 := by
  have h1 := val_lt h.1
  have h2 := h.2
  have := gcan_len b16 (n := 4 * x.length) (v := val x) (by rw [pow16]; exact h1)
  omega
theorem K.V {x : List Int} (h : K x) : V x := ⟨h.1, by have := h.2; omega⟩
theorem K_lim {x : List Int} (h : K x) : val x < Lim := lim_of (val_lt h.1) (by have := h.2; omega)

/-! ### words -/
theorem dwords_step {t h : List Int} (hd : Dg 65536 t) (hl : t.length ≤ 1000000) {i w c k : Nat} (hi : i ≤ 2000000) (hw : w < 281474976710656) (hc : c ≤ 3) : dwords_L16 (k + 1) t (i : Int) (w : Int) (c : Int) h = dwords_L16 k t (i : Int) ((w * 65536 + (t.getD (i + c) 0).toNat : Nat) : Int) ((c : Int) - 1) h := by
  have e1 : addI .i64 (i : Int) (c : Int) = ((i + c : Nat) : Int) := by
    rw [addI_i64 (by omega)]
    omega
  have e2 : mulI .u64 (w : Int) 65536 = ((w * 65536 : Nat) : Int) := by
    rw [mulI_u64]
    omega
  have e3 : subI .i64 (c : Int) 1 = (c : Int) - 1 := subI_i64 (by omega)
  rw [dwords_L16, dwords_b16, e1, e2, e3, cond_dec, if_pos (by omega), cond_dec]
  have g := hd.get (by omega) (i + c)
  by_cases hlt : i + c < t.length
  · obtain ⟨d, hdn⟩ := Int.eq_ofNat_of_zero_le g.1
    rw [hdn] at g
    have ew : (((w * 65536 : Nat) : Int) + (d : Int)) % 18446744073709551616 = ((w * 65536 + d : Nat) : Int) := by omega
    rw [if_pos (by omega), inR hlt, cond_t, rdI_nat, hdn, cvI_u64 (by omega), addI_u64, Int.toNat_natCast, ew]
  · rw [if_neg (by omega), getD_out hlt]
    simp
theorem dwords_word {t h : List Int} (hd : Dg 65536 t) (hl : t.length ≤ 1000000) {i k : Nat} (hi : i ≤ 1000000) (hh : h.length ≤ 1000000) : dwords_L16 (k + 5) t (i : Int) 0 3 h = dwords_L8 k t ((i + 4 : Nat) : Int) (h ++ [(((((t.getD (i + 3) 0).toNat * 65536 + (t.getD (i + 2) 0).toNat) * 65536 + (t.getD (i + 1) 0).toNat) * 65536 + (t.getD i 0).toNat : Nat) : Int)]) := by
  have g3 := hd.get (by omega) (i + 3)
  have g2 := hd.get (by omega) (i + 2)
  have g1 := hd.get (by omega) (i + 1)
  have g0 := hd.get (by omega) i
  have s3 := dwords_step (h := h) hd hl (i := i) (w := 0) (c := 3) (k := k + 4) (by omega) (by omega) (by omega)
  have s2 := dwords_step (h := h) hd hl (i := i) (w := (t.getD (i + 3) 0).toNat) (c := 2) (k := k + 3) (by omega) (by omega) (by omega)
  have s1 := dwords_step (h := h) hd hl (i := i) (w := (t.getD (i + 3) 0).toNat * 65536 + (t.getD (i + 2) 0).toNat) (c := 1) (k := k + 2) (by omega) (by omega) (by omega)
  have s0 := dwords_step (h := h) hd hl (i := i) (w := ((t.getD (i + 3) 0).toNat * 65536 + (t.getD (i + 2) 0).toNat) * 65536 + (t.getD (i + 1) 0).toNat) (c := 0) (k := k + 1) (by omega) (by omega) (by omega)
  rw [Nat.zero_mul, Nat.zero_add] at s3
  simp only [Nat.add_zero] at s0
  refine s3.trans (s2.trans (s1.trans (s0.trans ?_)))
  have e4 : addI .i64 (i : Int) 4 = ((i + 4 : Nat) : Int) := by
    rw [addI_i64 (by omega)]
    omega
  rw [dwords_L16, dwords_b16, cond_dec, if_neg (by omega), cond_dec, if_pos (by rw [snoc_len]; omega), e4]
theorem dwords_loop {t : List Int} (hd : Dg 65536 t) (hl : t.length ≤ 1000000) (htop : t = gcan 65536 (gval 65536 t)) : ∀ (n m k : Nat) (h : List Int), t.length ≤ 4 * (m + n) → n * 6 + 1 ≤ k → h.length = m → (m = 0 ∨ 4 * (m - 1) < t.length) → W64 h → val h = gval 65536 (t.take (4 * m)) → dwords_L8 k t ((4 * m : Nat) : Int) h = some (can (gval 65536 t))
  | n, m, 0, h, _, hk, _, _, _, _ => by omega
  | n, m, k + 1, h, hn, hk, hlen, hm, hw, hv => by
    rw [dwords_L8, dwords_b8, cond_dec]
    by_cases c : 4 * m < t.length
    · obtain ⟨n, rfl⟩ : ∃ n', n = n' + 1 := ⟨n - 1, by omega⟩
      obtain ⟨k', rfl⟩ : ∃ k', k = k' + 5 := ⟨k - 5, by omega⟩
      have g3 := hd.get (by omega) (4 * m + 3)
      have g2 := hd.get (by omega) (4 * m + 2)
      have g1 := hd.get (by omega) (4 * m + 1)
      have g0 := hd.get (by omega) (4 * m)
      rw [if_pos (by omega), dwords_word hd hl (by omega) (by omega), show 4 * m + 4 = 4 * (m + 1) from by omega]
      refine dwords_loop hd hl htop n (m + 1) k' _ (by omega) (by omega) (by rw [snoc_len]; omega) (.inr (by omega)) (W64.append.2 ⟨hw, by rw [W64.cons]; exact ⟨⟨by omega, by omega⟩, W64.nil⟩⟩) ?_
      rw [val_snoc, hlen, hv, show 4 * (m + 1) = 4 * m + 1 + 1 + 1 + 1 from by omega, gval_take_succ, gval_take_succ, gval_take_succ, gval_take_succ, Int.toNat_natCast, ← pow16 m]
      rw [Nat.pow_succ _ (4 * m + 1 + 1), Nat.pow_succ _ (4 * m + 1), Nat.pow_succ _ (4 * m)]
      rw [show 4 * m + 1 + 1 + 1 = 4 * m + 3 from rfl, show 4 * m + 1 + 1 = 4 * m + 2 from rfl]
      generalize 65536 ^ (4 * m) = P
      grind
    · rw [if_neg (by omega)]
      rw [List.take_of_length_le (by omega)] at hv
      congr 1
      rw [← hv]
      symm
      match m, hm, hlen with
      | 0, _, hlen =>
        obtain rfl := List.eq_nil_of_length_eq_zero hlen
        simp [can_zero]
      | m + 1, hm, hlen =>
        refine can_self (n := m) hw hlen ?_
        rw [hv]
        intro hlt
        have h4 := gcan_len b16 (n := 4 * m) (v := gval 65536 t) (by rw [pow16]; exact hlt)
        rw [← htop] at h4
        rcases hm with h | h <;> omega
theorem dwords_law {a t : List Int} (h : dwordsF a = some t) : ∃ k : Nat, dwords_b0 (dwords_L8 k) (dwords_L16 k) a = some t := by
  obtain ⟨⟨ha, hl⟩, rfl⟩ := gu_eq.1 h
  refine ⟨a.length * 6 + 1, ?_⟩
  have hv : gval 65536 (gcan 65536 (gval 65536 a)) = gval 65536 a := gval_gcan b16 _
  have hlen : (gcan 65536 (gval 65536 a)).length ≤ a.length := gcan_len b16 (gval_lt ha)
  rw [dwords_b0, dcutF_ok ha hl, Option.bind_some]
  have := dwords_loop (t := gcan 65536 (gval 65536 a)) (gcan_ok b16 _) (by omega) (by rw [hv]) a.length 0 (a.length * 6 + 1) [] (by omega) (by omega) rfl (.inl rfl) W64.nil rfl
  rw [hv] at this
  exact this

/-! ### carries -/
theorem carried_tail {d : List Int} : ∀ (m c i k : Nat) (h : List Int), c < 2 ^ m → m ≤ 40 → d.length ≤ i → h.length = i → i + m ≤ 900000 → m + 1 ≤ k → Dg 65536 h → carried_L8 k d (c : Int) (i : Int) h = some (gcan 65536 (gval 65536 h + 65536 ^ i * c))
  | m, c, i, 0, h, _, _, _, _, _, hk, _ => by omega
  | m, 0, i, k + 1, h, hc, hm, hi, hl, hb, hk, hd => by
    rw [carried_L8, carried_b8, cond_dec, if_neg (by omega), cond_dec, if_neg (by omega), dcutF_ok hd (by omega), Option.bind_some, Nat.mul_zero, Nat.add_zero]
  | 0, c + 1, i, k + 1, h, hc, hm, hi, hl, hb, hk, hd => by simp at hc
  | m + 1, c + 1, i, k + 1, h, hc, hm, hi, hl, hb, hk, hd => by
    have h40 : 2 ^ (m + 1) ≤ 2 ^ 40 := Nat.pow_le_pow_right (by omega) hm
    rw [carried_L8, carried_b8, cond_dec, if_neg (by omega), cond_dec, if_pos (by omega), cond_dec, if_neg (by omega), rem16', div16 (by omega), cond_dec, if_pos (by rw [snoc_len]; omega), inc (by omega)]
    rw [Nat.pow_succ] at hc
    rw [carried_tail m ((c + 1) / 65536) (i + 1) k _ (by omega) (by omega) (by omega) (by rw [snoc_len]; omega) (by omega) (by omega) (Dg.append.2 ⟨hd, by rw [Dg.cons]; exact ⟨⟨by omega, by omega⟩, Dg.nil⟩⟩)]
    congr 2
    rw [gval_snoc, hl, Nat.pow_succ, Int.toNat_natCast]
    have := Nat.div_add_mod (c + 1) 65536
    generalize (c + 1) / 65536 = q at *
    generalize (c + 1) % 65536 = r at *
    rw [← this]
    grind
theorem carried_loop {d : List Int} (hd40 : Dg 1099511627776 d) (hdl : d.length ≤ 100000) : ∀ (n c i k : Nat) (h : List Int), i + n = d.length → c < 1099511627776 → h.length = i → n + 42 ≤ k → Dg 65536 h → gval 65536 h + 65536 ^ i * (c + gval 65536 (d.drop i)) = gval 65536 d → carried_L8 k d (c : Int) (i : Int) h = some (gcan 65536 (gval 65536 d))
  | n, c, i, 0, h, _, _, _, hk, _, _ => by omega
  | 0, c, i, k + 1, h, hi, hc, hl, hk, hd, hv => by
    rw [carried_tail 40 c i (k + 1) h (by omega) (by omega) (by omega) hl (by omega) (by omega) hd]
    rw [List.drop_of_length_le (by omega), gval_nil, Nat.add_zero] at hv
    rw [hv]
  | n + 1, c, i, k + 1, h, hi, hc, hl, hk, hd, hv => by
    have g := hd40.get (by omega) i
    obtain ⟨e, he⟩ := Int.eq_ofNat_of_zero_le g.1
    have hdr : gval 65536 (d.drop i) = e + 65536 * gval 65536 (d.drop (i + 1)) := by
      rw [List.drop_eq_getElem_cons (by omega), gval_cons]
      have : d[i] = (e : Int) := by
        rw [← he, List.getD_eq_getElem?_getD, List.getElem?_eq_getElem (by omega)]
        rfl
      rw [this, Int.toNat_natCast]
    rw [he] at g
    have ea : addI .i64 (c : Int) (e : Int) = ((c + e : Nat) : Int) := by
      rw [addI_i64 (by omega)]
      omega
    rw [carried_L8, carried_b8, cond_dec, if_pos (by omega), cond_dec, if_pos (by omega), inR (by omega), cond_t, rdI_nat, he, ea, rem16', div16 (by omega), cond_dec, if_pos (by rw [snoc_len]; omega), inc (by omega)]
    refine carried_loop hd40 hdl n ((c + e) / 65536) (i + 1) k _ (by omega) (by omega) (by rw [snoc_len]; omega) (by omega) (Dg.append.2 ⟨hd, by rw [Dg.cons]; exact ⟨⟨by omega, by omega⟩, Dg.nil⟩⟩) ?_
    rw [← hv, hdr, gval_snoc, hl, Nat.pow_succ, Int.toNat_natCast]
    have := Nat.div_add_mod (c + e) 65536
    generalize (c + e) / 65536 = q at *
    generalize (c + e) % 65536 = r at *
    generalize gval 65536 (d.drop (i + 1)) = V at *
    have h2 : c + (e + 65536 * V) = 65536 * q + r + 65536 * V := by omega
    rw [h2]
    grind
theorem carried_law {a t : List Int} (h : carriedF a = some t) : ∃ k : Nat, carried_b0 (carried_L8 k) a = some t := by
  obtain ⟨⟨ha, hl⟩, rfl⟩ := gu_eq.1 h
  exact ⟨a.length + 42, carried_loop ha hl a.length 0 0 (a.length + 42) [] (by omega) (by omega) rfl (by omega) Dg.nil (by simp [gval])⟩

theorem can_len_gt {v : Nat} : ((((can v).length : Nat) : Int) > 4096) ↔ ¬ v < Lim := by
  have h1 := can_len_iff lw v
  have h2 : v < Lim ↔ v < 18446744073709551616 ^ lw := Iff.rfl
  have h3 := lw_eq
  omega
theorem rtold_law {a : List Int} {t : List Int × Int} (h : rtoldF a = some t) : ∃ k : Nat, rtold_b0 a = some t := by
  obtain ⟨⟨ha, hl⟩, rfl⟩ := gu_eq.1 h
  refine ⟨0, ?_⟩
  rw [rtold_b0, dwordsF, gu_pos ⟨ha, hl⟩, Option.bind_some, cond_dec]
  by_cases c : gval 65536 a < Lim
  · rw [if_neg (fun h => can_len_gt.1 h c), bnd_lt c]
  · rw [if_pos (can_len_gt.2 c), bnd_ge' c]

theorem digitsF_ok {x : List Int} (h : K x) : digitsF x = some (gcan 65536 (val x)) := gu_pos h
theorem dwordsF_ok {v : Nat} (h : (gcan 65536 v).length ≤ 1000000) : dwordsF (gcan 65536 v) = some (can v) := by
  rw [dwordsF, gu_pos ⟨gcan_ok b16 _, h⟩, gval_gcan b16]
theorem rtoldF_ok {v : Nat} (h : (gcan 65536 v).length ≤ 1000000) : rtoldF (gcan 65536 v) = some (bnd v) := by
  rw [rtoldF, gu_pos ⟨gcan_ok b16 _, h⟩, gval_gcan b16]
theorem rNorm_law {a t : List Int} (h : rNormF a = some t) : ∃ k : Nat, rNorm_b0 a = some t := by
  obtain ⟨ha, rfl⟩ := gu_eq.1 h
  refine ⟨0, ?_⟩
  have := K_len ha
  rw [rNorm_b0, digitsF_ok ha, Option.bind_some, dwordsF_ok (by omega), Option.bind_some]
theorem K_one {a : Int} (h : Wd a) : K [a] := ⟨by rw [W64.cons]; exact ⟨h, W64.nil⟩, by simp⟩
theorem rFrom_law {a : Int} {t : List Int} (h : rFromF a = some t) : ∃ k : Nat, rFrom_b0 a = some t := by
  obtain ⟨ha, rfl⟩ := gu_eq.1 h
  refine ⟨0, ?_⟩
  rw [rFrom_b0, rNormF, gu_pos (K_one ha), Option.bind_some, val_one]
theorem rWord_law {a : List Int} {t : Int × Bool} (h : rWordF a = some t) : ∃ k : Nat, rWord_b0 a = some t := by
  obtain ⟨ha, rfl⟩ := gu_eq.1 h
  refine ⟨0, ?_⟩
  rw [rWord_b0, rNormF, gu_pos ha, Option.bind_some]
  simp only [len_can_zero, cond_dec]
  by_cases c0 : val a = 0
  · rw [if_pos c0, c0]
    rfl
  · rw [if_neg c0]
    have h1 := can_len_iff 1 (val a)
    rw [Nat.pow_one] at h1
    have h0 : (can (val a)).length ≠ 0 := fun e => c0 (can_nil.1 (List.length_eq_zero_iff.1 e))
    by_cases c1 : val a < 18446744073709551616
    · have hin : inRange 0 (can (val a)).length = true := inR (i := 0) (by omega)
      rw [if_neg (by omega), if_pos c1, hin, cond_t, can_pos c0]
      have : rdI (((val a % 18446744073709551616 : Nat) : Int) :: can (val a / 18446744073709551616)) 0 = ((val a % 18446744073709551616 : Nat) : Int) := rfl
      rw [this, Nat.mod_eq_of_lt c1]
    · rw [if_pos (by omega), if_neg c1]

/-! ### comparing -/
theorem compare_loop {a b : List Int} (ha : Dg 65536 a) (hb : Dg 65536 b) (hl : a.length ≤ 1000000) : ∀ (i k : Nat), i ≤ a.length → i ≤ b.length → i + 1 ≤ k → compare_L12 k a b ((i : Int) - 1) = some (sgn (gval 65536 (a.take i)) (gval 65536 (b.take i)))
  | i, 0, _, _, hk => by omega
  | 0, k + 1, _, _, hk => by
    rw [compare_L12, compare_b12, cond_dec, if_neg (by omega)]
    rfl
  | i + 1, k + 1, h1, h2, hk => by
    have e : ((i + 1 : Nat) : Int) - 1 = (i : Int) := by omega
    have e2 : subI .i64 (i : Int) 1 = (i : Int) - 1 := subI_i64 (by omega)
    have ga := ha.get (by omega) i
    have gb := hb.get (by omega) i
    have la := gval_lt (ha.take i)
    have lb := gval_lt (hb.take i)
    rw [List.length_take, Nat.min_eq_left (by omega)] at la lb
    rw [e, compare_L12, compare_b12, cond_dec, if_pos (by omega), inR (by omega), inR (by omega), cond_t, cond_t, cond_t, cond_t, e2, rdI_nat, rdI_nat, gval_take_succ, gval_take_succ, compare_loop ha hb hl i k (by omega) (by omega) (by omega), cond_ndec]
    generalize a.getD i 0 = x at *
    generalize b.getD i 0 = y at *
    unfold sgn
    rcases Int.lt_trichotomy x y with h | h | h
    · rw [if_neg (show ¬ x = y by omega), cond_dec, if_pos h, if_pos (top_lt la (by omega))]
    · subst h
      rw [if_pos rfl]
      have e1 : (gval 65536 (a.take i) + 65536 ^ i * x.toNat < gval 65536 (b.take i) + 65536 ^ i * x.toNat) ↔ gval 65536 (a.take i) < gval 65536 (b.take i) := by omega
      have e2 : (gval 65536 (a.take i) + 65536 ^ i * x.toNat = gval 65536 (b.take i) + 65536 ^ i * x.toNat) ↔ gval 65536 (a.take i) = gval 65536 (b.take i) := by omega
      simp only [e1, e2]
    · have := top_lt (p := 65536 ^ i) (b := gval 65536 (a.take i)) lb (show y.toNat < x.toNat by omega)
      have n1 : ¬ gval 65536 (a.take i) + 65536 ^ i * x.toNat < gval 65536 (b.take i) + 65536 ^ i * y.toNat := by omega
      have n2 : ¬ gval 65536 (a.take i) + 65536 ^ i * x.toNat = gval 65536 (b.take i) + 65536 ^ i * y.toNat := by omega
      rw [if_neg n1, if_neg n2, if_neg (show ¬ x = y by omega), cond_dec, if_neg (by omega)]
theorem compare_law {a b : List Int} {t : Int} (h : compareF (a, b) = some t) : ∃ k : Nat, compare_b0 (compare_L12 k) a b = some t := by
  obtain ⟨⟨ha, hb, hl⟩, rfl⟩ := gu_eq.1 h
  dsimp only at *
  refine ⟨a.length + 1, ?_⟩
  have da : Dg 65536 a := by rw [ha]; exact gcan_ok b16 _
  have db : Dg 65536 b := by rw [hb]; exact gcan_ok b16 _
  have key : ∀ {x y : List Int}, y = gcan 65536 (gval 65536 y) → Dg 65536 x → x.length < y.length → gval 65536 x < gval 65536 y := by
    intro x y hy hx hlt
    have h1 := gval_lt hx
    rcases Nat.lt_or_ge (gval 65536 x) (gval 65536 y) with h | h
    · exact h
    · have := gcan_len b16 (n := x.length) (v := gval 65536 y) (by omega)
      rw [← hy] at this
      omega
  rw [compare_b0, cond_ndec, cond_dec]
  rcases Nat.lt_trichotomy a.length b.length with hc | hc | hc
  · rw [if_neg (by omega), if_pos (by omega), sgn_lt (key hb da hc)]
  · have hb2 : b.take a.length = b := by rw [hc, List.take_length]
    rw [if_pos (by omega), subI_i64 (by omega), compare_loop da db hl a.length _ (Nat.le_refl _) (by omega) (Nat.le_refl _), List.take_length, hb2]
  · rw [if_neg (by omega), if_neg (by omega), sgn_gt (key ha db hc)]
theorem compareF_ok {u v : Nat} (h : (gcan 65536 u).length ≤ 1000000) : compareF (gcan 65536 u, gcan 65536 v) = some (sgn u v) := by
  rw [compareF, gu_pos ⟨by rw [gval_gcan b16], by rw [gval_gcan b16], h⟩, gval_gcan b16, gval_gcan b16]
theorem rCmp_law {a b : List Int} {t : Int} (h : rCmpF (a, b) = some t) : ∃ k : Nat, rCmp_b0 a b = some t := by
  obtain ⟨⟨ha, hb⟩, rfl⟩ := gu_eq.1 h
  refine ⟨0, ?_⟩
  have := K_len ha
  rw [rCmp_b0, digitsF_ok ha, digitsF_ok hb, Option.bind_some, Option.bind_some, compareF_ok (by omega), Option.bind_some]

/-! ### sums -/
theorem plus_loop {a b : List Int} (ha : Dg 65536 a) (hb : Dg 65536 b) (la : a.length ≤ 100000) (lb : b.length ≤ 100000) : ∀ (n i k : Nat) (h : List Int), i + n = max a.length b.length → n + 1 ≤ k → h.length = i → Dg 131072 h → gval 65536 h = gval 65536 (a.take i) + gval 65536 (b.take i) → plus_L6 k a b (i : Int) h = some (gcan 65536 (gval 65536 a + gval 65536 b))
  | n, i, 0, h, _, hk, _, _, _ => by omega
  | 0, i, k + 1, h, hi, hk, hl, hd, hv => by
    rw [List.take_of_length_le (by omega), List.take_of_length_le (by omega)] at hv
    rw [plus_L6, plus_b6, cond_dec, if_neg (by omega), cond_dec, if_neg (by omega), carriedF, gu_pos ⟨hd.mono (by omega), by omega⟩, Option.bind_some, hv]
  | n + 1, i, k + 1, h, hi, hk, hl, hd, hv => by
    have ga := ha.get (by omega) i
    have gb := hb.get (by omega) i
    have hsz : (((h ++ [a.getD i 0 + b.getD i 0]).length : Nat) : Int) * 8 ≤ 140737488355328 := by rw [snoc_len]; omega
    have key : plus_L6 (k + 1) a b (i : Int) h = plus_L6 k a b ((i + 1 : Nat) : Int) (h ++ [a.getD i 0 + b.getD i 0]) := by
      rw [plus_L6, plus_b6, inc (by omega)]
      by_cases c1 : i < a.length
      · have a0 : addI .i64 0 (a.getD i 0) = a.getD i 0 := by rw [addI_i64 (by omega)]; omega
        rw [cond_dec, if_pos (by omega), cond_dec, if_pos (by omega), inR c1, cond_t, rdI_nat, rdI_nat, a0, cond_dec]
        by_cases c2 : i < b.length
        · have a1 : addI .i64 (a.getD i 0) (b.getD i 0) = a.getD i 0 + b.getD i 0 := addI_i64 (by omega)
          rw [if_pos (by omega), inR c2, cond_t, a1, cond_dec, if_pos hsz]
        · rw [getD_out c2, Int.add_zero] at hsz ⊢
          rw [if_neg (by omega), cond_dec, if_pos hsz]
      · have c2 : i < b.length := by omega
        have b0 : addI .i64 0 (b.getD i 0) = b.getD i 0 := by rw [addI_i64 (by omega)]; omega
        rw [getD_out c1, Int.zero_add] at hsz ⊢
        rw [cond_dec, if_neg (by omega), cond_dec, if_pos (by omega), cond_dec, if_neg (by omega), cond_dec, if_pos (by omega), inR c2, cond_t, rdI_nat, b0, cond_dec, if_pos hsz]
    rw [key]
    refine plus_loop ha hb la lb n (i + 1) k _ (by omega) (by omega) (by rw [snoc_len]; omega) (Dg.append.2 ⟨hd, by rw [Dg.cons]; exact ⟨⟨by omega, by omega⟩, Dg.nil⟩⟩) ?_
    rw [gval_snoc, hl, hv, gval_take_succ, gval_take_succ]
    have e : (a.getD i 0 + b.getD i 0).toNat = (a.getD i 0).toNat + (b.getD i 0).toNat := by omega
    rw [e, Nat.mul_add]
    omega
theorem plus_law {a b t : List Int} (h : plusF (a, b) = some t) : ∃ k : Nat, plus_b0 (plus_L6 k) a b = some t := by
  obtain ⟨⟨ha, hb, la, lb⟩, rfl⟩ := gu_eq.1 h
  dsimp only at *
  exact ⟨max a.length b.length + 1, plus_loop ha hb la lb (max a.length b.length) 0 _ [] (by omega) (Nat.le_refl _) rfl Dg.nil (by simp [gval])⟩
theorem plusF_ok {u v : Nat} (hu : (gcan 65536 u).length ≤ 100000) (hv : (gcan 65536 v).length ≤ 100000) : plusF (gcan 65536 u, gcan 65536 v) = some (gcan 65536 (u + v)) := by
  rw [plusF, gu_pos ⟨gcan_ok b16 _, gcan_ok b16 _, hu, hv⟩, gval_gcan b16, gval_gcan b16]
theorem gcan_add_len {u v n : Nat} (hu : (gcan 65536 u).length ≤ n) (hv : (gcan 65536 v).length ≤ n) : (gcan 65536 (u + v)).length ≤ n + 1 := by
  rw [gcan_len_iff b16] at *
  rw [Nat.pow_succ]
  omega
theorem rAdd_law {a b : List Int} {t : List Int × Int} (h : rAddF (a, b) = some t) : ∃ k : Nat, rAdd_b0 a b = some t := by
  obtain ⟨⟨ha, hb⟩, rfl⟩ := gu_eq.1 h
  dsimp only at *
  refine ⟨0, ?_⟩
  have l1 := K_len ha
  have l2 := K_len hb
  have l3 := gcan_add_len l1 l2
  rw [rAdd_b0, digitsF_ok ha, digitsF_ok hb, Option.bind_some, Option.bind_some, plusF_ok (by omega) (by omega), Option.bind_some, rtoldF_ok (by omega), Option.bind_some]
theorem rSum_loop : ∀ (ls lpre : List AV) (s k : Nat), lpre.length + ls.length ≤ 100 → (∀ x ∈ rows ls, K x) → (gcan 65536 s).length ≤ 4000 + lpre.length → ls.length + 1 ≤ k → rSum_L6 k (lpre ++ ls) (gcan 65536 s) (lpre.length : Int) = some (bnd (s + ((rows ls).map val).sum))
  | ls, lpre, s, 0, _, _, _, hk => by omega
  | [], lpre, s, k + 1, hl, hV, hs, hk => by
    simp at hl
    rw [rSum_L6, rSum_b6, cond_dec, if_neg (by simp), rtoldF_ok (by omega), Option.bind_some]
    simp [rows]
  | x :: ls, lpre, s, k + 1, hl, hV, hs, hk => by
    simp only [List.length_cons] at hl hk
    have hx : K x.asInts := hV _ (by simp [rows])
    have hlen : lpre.length < (lpre ++ x :: ls).length := by simp
    have l1 := K_len hx
    have l2 := gcan_add_len hs (Nat.le_trans l1 (by omega : 4000 ≤ 4000 + lpre.length))
    rw [rSum_L6, rSum_b6, cond_dec, if_pos (by omega), inR hlen, cond_t, Int.toNat_natCast, aget_mid, digitsF_ok hx, Option.bind_some, plusF_ok (by omega) (by omega), Option.bind_some, inc (by omega)]
    have e1 : (lpre ++ [x]).length = lpre.length + 1 := by simp
    have ih := rSum_loop ls (lpre ++ [x]) (s + val x.asInts) k (by rw [e1]; omega) (fun y hy => hV y (by simp only [rows, List.map_cons] at hy ⊢; exact List.mem_cons_of_mem _ hy)) (by rw [e1]; omega) (by omega)
    rw [List.append_assoc, List.singleton_append, e1] at ih
    refine ih.trans ?_
    simp only [rows, List.map_cons, List.sum_cons, Nat.add_assoc]
theorem rSum_law {a : List AV} {t : List Int × Int} (h : rSumF a = some t) : ∃ k : Nat, rSum_b0 (rSum_L6 k) a = some t := by
  obtain ⟨⟨h1, h2⟩, rfl⟩ := gu_eq.1 h
  refine ⟨a.length + 1, ?_⟩
  have := rSum_loop a [] 0 (a.length + 1) (by simpa using h2) h1 (by simp [gcan_zero]) (Nat.le_refl _)
  rw [Nat.zero_add, gcan_zero] at this
  exact this

/-! ### differences -/
theorem rSub_loop {a b : List Int} (ha : Dg 65536 a) (hb : Dg 65536 b) (la : a.length ≤ 100000) (hle : gval 65536 b ≤ gval 65536 a) (hlen : b.length ≤ a.length) : ∀ (n i c k : Nat) (h : List Int), i + n = a.length → n + 1 ≤ k → c ≤ 1 → h.length = i → Dg 65536 h → gval 65536 (a.take i) + c * 65536 ^ i = gval 65536 h + gval 65536 (b.take i) → rSub_L16 k a b (c : Int) (i : Int) h = some (bnd (gval 65536 a - gval 65536 b))
  | n, i, c, 0, h, _, hk, _, _, _, _ => by omega
  | 0, i, c, k + 1, h, hi, hk, hc, hl, hd, hv => by
    have hlt := gval_lt hd
    rw [hl] at hlt
    rw [List.take_of_length_le (by omega), List.take_of_length_le (by omega)] at hv
    have hz : gval 65536 h = gval 65536 a - gval 65536 b := by
      have : c = 0 ∨ c = 1 := by omega
      rcases this with rfl | rfl <;> omega
    rw [rSub_L16, rSub_b16, cond_dec, if_neg (by omega), rtoldF, gu_pos ⟨hd, by omega⟩, Option.bind_some, hz]
  | n + 1, i, c, k + 1, h, hi, hk, hc, hl, hd, hv => by
    have ga := ha.get (by omega) i
    have gb := hb.get (by omega) i
    have hsz : ∀ v : Int, (((h ++ [v]).length : Nat) : Int) * 8 ≤ 140737488355328 := by intro v; rw [snoc_len]; omega
    have key : rSub_L16 (k + 1) a b (c : Int) (i : Int) h = rSub_L16 k a b (if a.getD i 0 - c - b.getD i 0 < 0 then 1 else 0) ((i + 1 : Nat) : Int) (h ++ [(a.getD i 0 - c - b.getD i 0) % 65536]) := by
      have s1 : subI .i64 (a.getD i 0) (c : Int) = a.getD i 0 - c := subI_i64 (by omega)
      have s2 : subI .i64 (a.getD i 0 - c) (b.getD i 0) = a.getD i 0 - c - b.getD i 0 := subI_i64 (by omega)
      have s3 : addI .i64 (a.getD i 0 - c - b.getD i 0) 65536 = a.getD i 0 - c - b.getD i 0 + 65536 := addI_i64 (by omega)
      have s4 : addI .i64 (a.getD i 0 - c) 65536 = a.getD i 0 - c + 65536 := addI_i64 (by omega)
      rw [rSub_L16, rSub_b16, inc (by omega), cond_dec, if_pos (by omega), inR (by omega), cond_t, rdI_nat, rdI_nat, s1, cond_dec]
      by_cases c2 : i < b.length
      · rw [if_pos (by omega), inR c2, cond_t, s2, cond_dec, s3]
        by_cases c3 : a.getD i 0 - c - b.getD i 0 < 0
        · rw [if_pos c3, if_pos c3, cond_dec, if_pos (hsz _)]
          congr 3
          omega
        · rw [if_neg c3, if_neg c3, cond_dec, if_pos (hsz _)]
          congr 3
          omega
      · rw [if_neg (by omega), getD_out c2, Int.sub_zero, cond_dec, s4]
        by_cases c3 : a.getD i 0 - c < 0
        · rw [if_pos c3, if_pos c3, cond_dec, if_pos (hsz _)]
          congr 3
          omega
        · rw [if_neg c3, if_neg c3, cond_dec, if_pos (hsz _)]
          congr 3
          omega
    have hc' : (if a.getD i 0 - (c : Int) - b.getD i 0 < 0 then (1 : Int) else 0) = ((if a.getD i 0 - (c : Int) - b.getD i 0 < 0 then 1 else 0 : Nat) : Int) := by split <;> rfl
    rw [key, hc']
    refine rSub_loop ha hb la hle hlen n (i + 1) _ k _ (by omega) (by omega) (by split <;> omega) (by rw [snoc_len]; omega) (Dg.append.2 ⟨hd, by rw [Dg.cons]; exact ⟨⟨by omega, by omega⟩, Dg.nil⟩⟩) ?_
    rw [gval_snoc, hl, gval_take_succ, gval_take_succ, Nat.pow_succ]
    generalize a.getD i 0 = x at *
    generalize b.getD i 0 = y at *
    generalize gval 65536 (a.take i) = A at *
    generalize gval 65536 (b.take i) = B at *
    generalize gval 65536 h = H at *
    have e : x.toNat + (if x - (c : Int) - y < 0 then 1 else 0) * 65536 = ((x - c - y) % 65536).toNat + y.toNat + c := by split <;> omega
    generalize (if x - (c : Int) - y < 0 then 1 else 0 : Nat) = q at *
    generalize ((x - c - y) % 65536).toNat = r at *
    generalize 65536 ^ i = P at *
    have e2 : P * x.toNat + q * (P * 65536) = P * r + P * y.toNat + P * c := by
      have := congrArg (fun z => P * z) e
      grind
    have e3 : c * P = P * c := Nat.mul_comm _ _
    omega
theorem rSub_law {a b : List Int} {t : List Int × Int} (h : rSubF (a, b) = some t) : ∃ k : Nat, rSub_b0 (rSub_L16 k) a b = some t := by
  obtain ⟨⟨ha, hb⟩, rfl⟩ := gu_eq.1 h
  dsimp only at *
  have l1 := K_len ha
  have l2 := K_len hb
  refine ⟨(gcan 65536 (val a)).length + 1, ?_⟩
  rw [rSub_b0, digitsF_ok ha, digitsF_ok hb, Option.bind_some, Option.bind_some, compareF_ok (by omega), Option.bind_some, cond_dec]
  by_cases c : val a < val b
  · rw [sgn_lt c, if_pos (by omega), if_pos c]
  · rw [if_neg (by have := sgn_le (a := val b) (b := val a); unfold sgn at *; split <;> (try split) <;> omega), if_neg c]
    have g1 : gval 65536 (gcan 65536 (val a)) = val a := gval_gcan b16 _
    have g2 : gval 65536 (gcan 65536 (val b)) = val b := gval_gcan b16 _
    have hll : (gcan 65536 (val b)).length ≤ (gcan 65536 (val a)).length := by
      rw [gcan_len_iff b16]
      have := gval_lt (gcan_ok b16 (val a))
      rw [g1] at this
      omega
    have := rSub_loop (a := gcan 65536 (val a)) (b := gcan 65536 (val b)) (gcan_ok b16 _) (gcan_ok b16 _) (by omega) (by rw [g1, g2]; omega) hll (gcan 65536 (val a)).length 0 0 _ [] (by omega) (Nat.le_refl _) (by omega) rfl Dg.nil (by simp [gval])
    rw [g1, g2] at this
    exact this

/-! ### products -/
theorem rMul_inner {a b : List Int} (hbd : Dg 65536 b) {i x : Nat} (hx : x < 65536) (hia : i < a.length) (hax : a.getD i 0 = (x : Int)) {R : Option (List Int × Int)} {K : Nat} : ∀ (ys ss pre ypre rest : List Int) (c k : Nat), b = ypre ++ ys → Dg 65536 ss → c < 65536 → ys.length = ss.length → pre.length = i + ypre.length → pre.length + ss.length ≤ 1000000 → K + ys.length + 2 ≤ k →
    (∀ k', K ≤ k' → rMul_L18 k' a b ((i + 1 : Nat) : Int) (pre ++ gmulrow 65536 x c ys ss ++ rest) = R) → rMul_L26 k a b (i : Int) (c : Int) (ypre.length : Int) (pre ++ ss ++ 0 :: rest) = R
  | ys, ss, pre, ypre, rest, c, 0, _, _, _, _, _, _, hk, _ => by omega
  | [], [], pre, ypre, rest, c, k + 1, hb, _, hc, _, hp, hl, hk, hR => by
    have hlen : pre.length < (pre ++ (0 : Int) :: rest).length := by simp
    simp at hl hk
    have hbl : b.length = ypre.length := by rw [hb]; simp
    have e1 : addI .i64 (i : Int) ((ypre.length : Nat) : Int) = ((pre.length : Nat) : Int) := by
      rw [addI_i64 (by omega)]
      omega
    rw [rMul_L26, rMul_b26, cond_dec, if_neg (by omega), List.append_nil pre, e1, inR hlen, cond_t, inc (by omega), inc (by omega), cond_dec]
    by_cases c0 : c = 0
    · subst c0
      rw [if_neg (by omega)]
      have := hR k (by omega)
      simpa [gmulrow] using this
    · have ea : addI .i64 0 (c : Int) = (c : Int) := by
        rw [addI_i64 (by omega)]
        omega
      have er : remI (c : Int) 65536 = (c : Int) := by
        rw [rem16', Nat.mod_eq_of_lt hc]
      have ed : divI .i64 (c : Int) 65536 = 0 := by
        rw [div16 (by omega), Nat.div_eq_of_lt hc]
        rfl
      rw [if_pos (by omega), cond_dec, if_neg (by omega), cond_t, Int.toNat_natCast, rdN_mid rfl, ea, er, ed, wrI_mid rfl]
      match k, hk with
      | k + 1, hk =>
        have e2 : addI .i64 (i : Int) ((ypre.length + 1 : Nat) : Int) = ((pre.length + 1 : Nat) : Int) := by
          rw [addI_i64 (by omega)]
          omega
        rw [rMul_L26, rMul_b26, cond_dec, if_neg (by omega), cond_dec, if_neg (by omega), inc (by omega)]
        have := hR k (by omega)
        simpa [gmulrow] using this
  | y :: ys, s :: ss, pre, ypre, rest, c, k + 1, hb, hs, hc, hl, hp, hbd', hk, hR => by
    rw [Dg.cons] at hs
    simp only [List.length_cons] at hl hbd' hk
    have hdg := hbd
    rw [hb, Dg.append, Dg.cons] at hdg
    obtain ⟨yn, rfl⟩ := Int.eq_ofNat_of_zero_le hdg.2.1.1
    obtain ⟨sn, rfl⟩ := Int.eq_ofNat_of_zero_le hs.1.1
    have hyb : yn < 65536 := by have := hdg.2.1.2; omega
    have hsb : sn < 65536 := by have := hs.1.2; omega
    have hmb := gmul_bound (b := 65536) hx hyb hsb hc
    have hxy : x * yn ≤ 65535 * 65535 := Nat.mul_le_mul (by omega) (by omega)
    have hbl : ypre.length < b.length := by rw [hb]; simp
    have hrd : rdI b (ypre.length : Int) = (yn : Int) := by
      rw [hb]
      exact rdI_mid rfl
    have e1 : addI .i64 (i : Int) (ypre.length : Int) = ((pre.length : Nat) : Int) := by
      rw [addI_i64 (by omega)]
      omega
    have hlen : pre.length < (pre ++ (sn : Int) :: (ss ++ 0 :: rest)).length := by simp
    have em : mulI .i64 (x : Int) (yn : Int) = ((x * yn : Nat) : Int) := by
      have := Int.natCast_mul x yn
      rw [mulI_i64 (by rw [← this]; omega), this]
    have ea : addI .i64 (addI .i64 (sn : Int) (c : Int)) ((x * yn : Nat) : Int) = ((x * yn + sn + c : Nat) : Int) := by
      rw [addI_i64 (a := (sn : Int)) (by omega), addI_i64 (by omega)]
      omega
    rw [app_assoc3, rMul_L26, rMul_b26, cond_dec, if_pos (by omega), e1, inR hlen, cond_t, cond_dec, if_pos (by omega), inR hia, inR hbl, cond_t, cond_t, cond_t, Int.toNat_natCast, rdN_mid rfl, rdI_nat, hax, hrd, em, ea, rem16', div16 (by omega), inc (by omega), wrI_mid rfl]
    have e3 : pre ++ (((x * yn + sn + c) % 65536 : Nat) : Int) :: (ss ++ 0 :: rest) = pre ++ [(((x * yn + sn + c) % 65536 : Nat) : Int)] ++ ss ++ 0 :: rest := by simp
    rw [e3, ← snoc_len ypre (yn : Int)]
    refine rMul_inner (R := R) (K := K) hbd hx hia hax ys ss _ (ypre ++ [(yn : Int)]) rest ((x * yn + sn + c) / 65536) k (by rw [hb]; simp) hs.2 hmb (by omega) (by rw [snoc_len, snoc_len]; omega) (by rw [snoc_len]; omega) (by omega) ?_
    intro k' hk'
    have := hR k' hk'
    rw [gmulrow, Int.toNat_natCast, Int.toNat_natCast] at this
    rw [← this]
    congr 1
    simp
  | [], _ :: _, _, _, _, _, _, _, _, _, hl, _, _, _, _ => by simp at hl
  | _ :: _, [], _, _, _, _, _, _, _, _, hl, _, _, _, _ => by simp at hl
theorem rMul_outer {a b : List Int} (ha : Dg 65536 a) (hb : Dg 65536 b) (hlim : a.length + b.length ≤ 100000) : ∀ (n i k : Nat) (o : List Int), i + n = a.length → n * (b.length + 4) + 1 ≤ k → o.length = i + b.length → Dg 65536 o → gval 65536 o = gval 65536 (a.take i) * gval 65536 b → rMul_L18 k a b (i : Int) (o ++ List.replicate n 0) = some (bnd (gval 65536 a * gval 65536 b))
  | n, i, 0, o, _, hk, _, _, _ => by omega
  | 0, i, k + 1, o, hi, hk, ho, hw, hv => by
    rw [List.take_of_length_le (by omega)] at hv
    have e : o ++ List.replicate 0 0 = o := by simp
    rw [e, rMul_L18, rMul_b18, cond_dec, if_neg (by omega), rtoldF, gu_pos ⟨hw, by omega⟩, Option.bind_some, hv]
  | n + 1, i, k + 1, o, hi, hk, ho, hw, hv => by
    have hlt : i < a.length := by omega
    have g := ha.get (by omega) i
    obtain ⟨x, hx⟩ := Int.eq_ofNat_of_zero_le g.1
    have hxl : x < 65536 := by omega
    have ef : (n + 1) * (b.length + 4) = n * (b.length + 4) + b.length + 4 := by
      rw [Nat.succ_mul]
      omega
    rw [rMul_L18, rMul_b18, cond_dec, if_pos (by omega)]
    have hpre : (o.take i).length = i := by rw [List.length_take]; omega
    have hss : (o.drop i).length = b.length := by rw [List.length_drop]; omega
    have ho2 : o ++ List.replicate (n + 1) 0 = o.take i ++ o.drop i ++ 0 :: List.replicate n 0 := by
      rw [List.take_append_drop, List.replicate_succ]
    rw [ho2]
    obtain ⟨h1, h2, h3⟩ := gmulrow_spec hxl b (o.drop i) 0 hb (hw.drop i) (by omega) (by omega)
    refine rMul_inner (K := n * (b.length + 4) + 1) hb hxl hlt hx b (o.drop i) (o.take i) [] (List.replicate n 0) 0 k rfl (hw.drop i) (by omega) (by omega) (by simp [hpre]) (by rw [hpre, hss]; omega) (by omega) ?_
    intro k' hk'
    refine rMul_outer ha hb hlim n (i + 1) k' _ (by omega) hk' (by rw [List.length_append, h3, hpre]; omega) (Dg.append.2 ⟨hw.take i, h2⟩) ?_
    rw [gval_append, h1, hpre, gval_take_succ, hx, Int.toNat_natCast]
    have hvo : gval 65536 o = gval 65536 (o.take i) + 65536 ^ i * gval 65536 (o.drop i) := by
      conv => lhs; rw [← List.take_append_drop i o]
      rw [gval_append, hpre]
    rw [hvo] at hv
    generalize 65536 ^ i = P at *
    grind
theorem rMul_law {a b : List Int} {t : List Int × Int} (h : rMulF (a, b) = some t) : ∃ k : Nat, rMul_b0 (rMul_L18 k) (rMul_L26 k) a b = some t := by
  obtain ⟨⟨ha, hb⟩, rfl⟩ := gu_eq.1 h
  dsimp only at *
  have l1 := K_len ha
  have l2 := K_len hb
  have g1 : gval 65536 (gcan 65536 (val a)) = val a := gval_gcan b16 _
  have g2 : gval 65536 (gcan 65536 (val b)) = val b := gval_gcan b16 _
  have z : ∀ v, (gcan 65536 v).length = 0 → v = 0 := by
    intro v hv
    have := gcan_len_iff b16 0 v
    rw [Nat.pow_zero] at this
    omega
  refine ⟨(gcan 65536 (val a)).length * ((gcan 65536 (val b)).length + 4) + 1, ?_⟩
  rw [rMul_b0, digitsF_ok ha, digitsF_ok hb, Option.bind_some, Option.bind_some, cond_dec, cond_dec]
  by_cases c1 : (gcan 65536 (val a)).length = 0
  · rw [if_pos (by omega), z _ c1, Nat.zero_mul, bnd_zero]
  · rw [if_neg (by omega)]
    by_cases c2 : (gcan 65536 (val b)).length = 0
    · rw [if_pos (by omega), z _ c2, Nat.mul_zero, bnd_zero]
    · have ea : addI .i64 (((gcan 65536 (val a)).length : Nat) : Int) (((gcan 65536 (val b)).length : Nat) : Int) = (((gcan 65536 (val b)).length + (gcan 65536 (val a)).length : Nat) : Int) := by
        rw [addI_i64 (by omega)]
        omega
      rw [if_neg (by omega), ea, cond_dec, if_neg (by omega), Int.toNat_natCast, ← List.replicate_append_replicate]
      have d1 : decide ((0 : Int) ≤ (((gcan 65536 (val b)).length + (gcan 65536 (val a)).length : Nat) : Int)) = true := by rw [decide_eq_true_eq]; omega
      have d2 : decide ((((gcan 65536 (val b)).length + (gcan 65536 (val a)).length : Nat) : Int) * 8 ≤ 281474976710656) = true := by rw [decide_eq_true_eq]; omega
      rw [d1, d2, cond_t, cond_t]
      have := rMul_outer (gcan_ok b16 (val a)) (gcan_ok b16 (val b)) (by omega) (gcan 65536 (val a)).length 0 _ (List.replicate (gcan 65536 (val b)).length 0) (by omega) (Nat.le_refl _) (by simp) (Dg.rep (by omega) _) (by rw [gval_rep, List.take_zero]; simp [gval])
      rw [g1, g2] at this
      exact this
theorem dcut_ok : CtrOk Go.Proofs.Try.prog 148 (mkF [.sl (.int .i64)] [.sl (.int .i64)] dcutF) := by
  refine mkF_ok (c := bodyOf Go.Proofs.Try.f148) (tab := S.tab) (cts := []) (res := [2]) tab_ok hm trivial Go.Proofs.Try.func148 (by kernel_rfl) (by kernel_rfl) (by kernel_rfl) (by kernel_rfl) (by kernel_rfl) ?_
  rintro a t h
  obtain ⟨k, hk⟩ := dcut_law h
  exact ⟨dcut_h, 3000, k, (dcut_ev k a).trans hk⟩

theorem digits_ok : CtrOk Go.Proofs.Try.prog 120 (mkF [.sl (.int .u64)] [.sl (.int .i64)] digitsF) := by
  refine mkF_ok (c := bodyOf Go.Proofs.Try.f120) (tab := S.tab) (cts := [(148, mkF [.sl (.int .i64)] [.sl (.int .i64)] dcutF)]) (res := [2]) tab_ok hm ⟨dcut_ok, trivial⟩ Go.Proofs.Try.func120 (by kernel_rfl) (by kernel_rfl) (by kernel_rfl) (by kernel_rfl) (by kernel_rfl) ?_
  rintro a t h
  obtain ⟨k, hk⟩ := digits_law h
  exact ⟨digits_h, 3000, k, (digits_ev k a).trans hk⟩

theorem dwords_ok : CtrOk Go.Proofs.Try.prog 124 (mkF [.sl (.int .i64)] [.sl (.int .u64)] dwordsF) := by
  refine mkF_ok (c := bodyOf Go.Proofs.Try.f124) (tab := S.tab) (cts := [(148, mkF [.sl (.int .i64)] [.sl (.int .i64)] dcutF)]) (res := [2]) tab_ok hm ⟨dcut_ok, trivial⟩ Go.Proofs.Try.func124 (by kernel_rfl) (by kernel_rfl) (by kernel_rfl) (by kernel_rfl) (by kernel_rfl) ?_
  rintro a t h
  obtain ⟨k, hk⟩ := dwords_law h
  exact ⟨dwords_h, 3000, k, (dwords_ev k a).trans hk⟩

theorem carried_ok : CtrOk Go.Proofs.Try.prog 122 (mkF [.sl (.int .i64)] [.sl (.int .i64)] carriedF) := by
  refine mkF_ok (c := bodyOf Go.Proofs.Try.f122) (tab := S.tab) (cts := [(148, mkF [.sl (.int .i64)] [.sl (.int .i64)] dcutF)]) (res := [2]) tab_ok hm ⟨dcut_ok, trivial⟩ Go.Proofs.Try.func122 (by kernel_rfl) (by kernel_rfl) (by kernel_rfl) (by kernel_rfl) (by kernel_rfl) ?_
  rintro a t h
  obtain ⟨k, hk⟩ := carried_law h
  exact ⟨carried_h, 3000, k, (carried_ev k a).trans hk⟩

theorem rtold_ok : CtrOk Go.Proofs.Try.prog 121 (mkF [.sl (.int .i64)] [.sl (.int .u64), .int .i64] rtoldF) := by
  refine mkF_ok (c := bodyOf Go.Proofs.Try.f121) (tab := S.tab) (cts := [(124, mkF [.sl (.int .i64)] [.sl (.int .u64)] dwordsF)]) (res := [2, 3]) tab_ok hm ⟨dwords_ok, trivial⟩ Go.Proofs.Try.func121 (by kernel_rfl) (by kernel_rfl) (by kernel_rfl) (by kernel_rfl) (by kernel_rfl) ?_
  rintro a t h
  obtain ⟨k, hk⟩ := rtold_law h
  exact ⟨rtold_h, 3000, k, (rtold_ev k a).trans hk⟩

theorem rNorm_ok : CtrOk Go.Proofs.Try.prog 58 (mkF [.sl (.int .u64)] [.sl (.int .u64)] rNormF) := by
  refine mkF_ok (c := bodyOf Go.Proofs.Try.f58) (tab := S.tab) (cts := [(124, mkF [.sl (.int .i64)] [.sl (.int .u64)] dwordsF), (120, mkF [.sl (.int .u64)] [.sl (.int .i64)] digitsF)]) (res := [2]) tab_ok hm ⟨dwords_ok, digits_ok, trivial⟩ Go.Proofs.Try.func58 (by kernel_rfl) (by kernel_rfl) (by kernel_rfl) (by kernel_rfl) (by kernel_rfl) ?_
  rintro a t h
  obtain ⟨k, hk⟩ := rNorm_law h
  exact ⟨rNorm_h, 3000, k, (rNorm_ev k a).trans hk⟩

theorem rFrom_ok : CtrOk Go.Proofs.Try.prog 63 (mkF [.int .u64] [.sl (.int .u64)] rFromF) := by
  refine mkF_ok (c := bodyOf Go.Proofs.Try.f63) (tab := S.tab) (cts := [(58, mkF [.sl (.int .u64)] [.sl (.int .u64)] rNormF)]) (res := [2]) tab_ok hm ⟨rNorm_ok, trivial⟩ Go.Proofs.Try.func63 (by kernel_rfl) (by kernel_rfl) (by kernel_rfl) (by kernel_rfl) (by kernel_rfl) ?_
  rintro a t h
  obtain ⟨k, hk⟩ := rFrom_law h
  exact ⟨rFrom_h, 3000, k, (rFrom_ev k a).trans hk⟩

theorem rWord_ok : CtrOk Go.Proofs.Try.prog 61 (mkF [.sl (.int .u64)] [.int .u64, .bool] rWordF) := by
  refine mkF_ok (c := bodyOf Go.Proofs.Try.f61) (tab := S.tab) (cts := [(58, mkF [.sl (.int .u64)] [.sl (.int .u64)] rNormF)]) (res := [2, 3]) tab_ok hm ⟨rNorm_ok, trivial⟩ Go.Proofs.Try.func61 (by kernel_rfl) (by kernel_rfl) (by kernel_rfl) (by kernel_rfl) (by kernel_rfl) ?_
  rintro a t h
  obtain ⟨k, hk⟩ := rWord_law h
  exact ⟨rWord_h, 3000, k, (rWord_ev k a).trans hk⟩

theorem compare_ok : CtrOk Go.Proofs.Try.prog 125 (mkF [.sl (.int .i64), .sl (.int .i64)] [.int .i64] compareF) := by
  refine mkF_ok (c := bodyOf Go.Proofs.Try.f125) (tab := S.tab) (cts := []) (res := [4]) tab_ok hm trivial Go.Proofs.Try.func125 (by kernel_rfl) (by kernel_rfl) (by kernel_rfl) (by kernel_rfl) (by kernel_rfl) ?_
  rintro ⟨a, b⟩ t h
  obtain ⟨k, hk⟩ := compare_law h
  exact ⟨compare_h, 3000, k, (compare_ev k a b).trans hk⟩

theorem rCmp_ok : CtrOk Go.Proofs.Try.prog 59 (mkF [.sl (.int .u64), .sl (.int .u64)] [.int .i64] rCmpF) := by
  refine mkF_ok (c := bodyOf Go.Proofs.Try.f59) (tab := S.tab) (cts := [(120, mkF [.sl (.int .u64)] [.sl (.int .i64)] digitsF), (125, mkF [.sl (.int .i64), .sl (.int .i64)] [.int .i64] compareF)]) (res := [4]) tab_ok hm ⟨digits_ok, compare_ok, trivial⟩ Go.Proofs.Try.func59 (by kernel_rfl) (by kernel_rfl) (by kernel_rfl) (by kernel_rfl) (by kernel_rfl) ?_
  rintro ⟨a, b⟩ t h
  obtain ⟨k, hk⟩ := rCmp_law h
  exact ⟨rCmp_h, 3000, k, (rCmp_ev k a b).trans hk⟩

theorem plus_ok : CtrOk Go.Proofs.Try.prog 126 (mkF [.sl (.int .i64), .sl (.int .i64)] [.sl (.int .i64)] plusF) := by
  refine mkF_ok (c := bodyOf Go.Proofs.Try.f126) (tab := S.tab) (cts := [(122, mkF [.sl (.int .i64)] [.sl (.int .i64)] carriedF)]) (res := [4]) tab_ok hm ⟨carried_ok, trivial⟩ Go.Proofs.Try.func126 (by kernel_rfl) (by kernel_rfl) (by kernel_rfl) (by kernel_rfl) (by kernel_rfl) ?_
  rintro ⟨a, b⟩ t h
  obtain ⟨k, hk⟩ := plus_law h
  exact ⟨plus_h, 3000, k, (plus_ev k a b).trans hk⟩

theorem rAdd_ok : CtrOk Go.Proofs.Try.prog 64 (mkF [.sl (.int .u64), .sl (.int .u64)] [.sl (.int .u64), .int .i64] rAddF) := by
  refine mkF_ok (c := bodyOf Go.Proofs.Try.f64) (tab := S.tab) (cts := [(120, mkF [.sl (.int .u64)] [.sl (.int .i64)] digitsF), (126, mkF [.sl (.int .i64), .sl (.int .i64)] [.sl (.int .i64)] plusF), (121, mkF [.sl (.int .i64)] [.sl (.int .u64), .int .i64] rtoldF)]) (res := [4, 5]) tab_ok hm ⟨digits_ok, plus_ok, rtold_ok, trivial⟩ Go.Proofs.Try.func64 (by kernel_rfl) (by kernel_rfl) (by kernel_rfl) (by kernel_rfl) (by kernel_rfl) ?_
  rintro ⟨a, b⟩ t h
  obtain ⟨k, hk⟩ := rAdd_law h
  exact ⟨rAdd_h, 3000, k, (rAdd_ev k a b).trans hk⟩

theorem rSum_ok : CtrOk Go.Proofs.Try.prog 66 (mkF [.sl (.sl (.int .u64))] [.sl (.int .u64), .int .i64] rSumF) := by
  refine mkF_ok (c := bodyOf Go.Proofs.Try.f66) (tab := S.tab) (cts := [(120, mkF [.sl (.int .u64)] [.sl (.int .i64)] digitsF), (126, mkF [.sl (.int .i64), .sl (.int .i64)] [.sl (.int .i64)] plusF), (121, mkF [.sl (.int .i64)] [.sl (.int .u64), .int .i64] rtoldF)]) (res := [2, 3]) tab_ok hm ⟨digits_ok, plus_ok, rtold_ok, trivial⟩ Go.Proofs.Try.func66 (by kernel_rfl) (by kernel_rfl) (by kernel_rfl) (by kernel_rfl) (by kernel_rfl) ?_
  rintro a t h
  obtain ⟨k, hk⟩ := rSum_law h
  exact ⟨rSum_h, 3000, k, (rSum_ev k a).trans hk⟩

theorem rSub_ok : CtrOk Go.Proofs.Try.prog 65 (mkF [.sl (.int .u64), .sl (.int .u64)] [.sl (.int .u64), .int .i64] rSubF) := by
  refine mkF_ok (c := bodyOf Go.Proofs.Try.f65) (tab := S.tab) (cts := [(120, mkF [.sl (.int .u64)] [.sl (.int .i64)] digitsF), (125, mkF [.sl (.int .i64), .sl (.int .i64)] [.int .i64] compareF), (121, mkF [.sl (.int .i64)] [.sl (.int .u64), .int .i64] rtoldF)]) (res := [4, 5]) tab_ok hm ⟨digits_ok, compare_ok, rtold_ok, trivial⟩ Go.Proofs.Try.func65 (by kernel_rfl) (by kernel_rfl) (by kernel_rfl) (by kernel_rfl) (by kernel_rfl) ?_
  rintro ⟨a, b⟩ t h
  obtain ⟨k, hk⟩ := rSub_law h
  exact ⟨rSub_h, 3000, k, (rSub_ev k a b).trans hk⟩

theorem rMul_ok : CtrOk Go.Proofs.Try.prog 67 (mkF [.sl (.int .u64), .sl (.int .u64)] [.sl (.int .u64), .int .i64] rMulF) := by
  refine mkF_ok (c := bodyOf Go.Proofs.Try.f67) (tab := S.tab) (cts := [(120, mkF [.sl (.int .u64)] [.sl (.int .i64)] digitsF), (121, mkF [.sl (.int .i64)] [.sl (.int .u64), .int .i64] rtoldF)]) (res := [4, 5]) tab_ok hm ⟨digits_ok, rtold_ok, trivial⟩ Go.Proofs.Try.func67 (by kernel_rfl) (by kernel_rfl) (by kernel_rfl) (by kernel_rfl) (by kernel_rfl) ?_
  rintro ⟨a, b⟩ t h
  obtain ⟨k, hk⟩ := rMul_law h
  exact ⟨rMul_h, 3000, k, (rMul_ev k a b).trans hk⟩

end Go.RX.S
