/- Shifts: their contracts. -/
import Derived.Test.YtciapojlnhiggaaGreatZUd
set_option linter.unusedVariables false
set_option linter.unusedSimpArgs false
namespace Go.RX.S
open Go Go.RX
def shl (r : Nat) : Nat → List Int → List Int
  | _, [] => []
  | p, x :: xs => ((x.toNat * 2 ^ r % 18446744073709551616 + p : Nat) : Int) :: shl r (x.toNat * 2 ^ r / 18446744073709551616) xs
theorem shl_len (r : Nat) : ∀ (xs : List Int) (p : Nat), (shl r p xs).length = xs.length
  | [], _ => rfl
  | x :: xs, p => by simp [shl, shl_len r xs]
theorem shl_val (r : Nat) : ∀ (xs : List Int) (p : Nat), val (shl r p (xs ++ [0])) = val xs * 2 ^ r + p
  | [], p => by simp [shl, val_one]
  | x :: xs, p => by
    rw [List.cons_append, shl, val_cons, shl_val r xs, val_cons, Int.toNat_natCast, Nat.add_mul]
    have h1 := Nat.div_add_mod (x.toNat * 2 ^ r) 18446744073709551616
    have h2 : 18446744073709551616 * val xs * 2 ^ r = 18446744073709551616 * (val xs * 2 ^ r) := by rw [Nat.mul_assoc]
    rw [h2]
    generalize x.toNat * 2 ^ r = a at *
    generalize val xs * 2 ^ r = b at *
    omega
theorem shl_W64 {r : Nat} (hr : r < 64) : ∀ (xs : List Int) (p : Nat), W64 xs → p < 2 ^ r → W64 (shl r p xs)
  | [], _, _, _ => W64.nil
  | x :: xs, p, h, hp => by
    rw [W64.cons] at h
    rw [shl, W64.cons]
    obtain ⟨n, rfl, hn⟩ := Wd.nat h.1
    rw [Int.toNat_natCast]
    refine ⟨⟨by omega, ?_⟩, shl_W64 hr xs _ h.2 ?_⟩
    · rw [mul_mod_pow (by omega)]
      have hp2 : 0 < 2 ^ (64 - r) := Nat.pow_pos (by omega)
      have h2 : (n % 2 ^ (64 - r) + 1) * 2 ^ r ≤ 2 ^ (64 - r) * 2 ^ r := Nat.mul_le_mul_right _ (Nat.mod_lt _ hp2)
      rw [pow_split (by omega), Nat.succ_mul] at h2
      omega
    · rw [mul_div_pow (by omega)]
      exact div_pow_lt hn (by omega)
theorem shl_snoc2 (r : Nat) (p s : Int) : ∀ (A : List Int) (c : Nat), shl r c (A ++ [p, s]) = shl r c (A ++ [p]) ++ [((s.toNat * 2 ^ r % 18446744073709551616 + p.toNat * 2 ^ r / 18446744073709551616 : Nat) : Int)]
  | [], c => by simp [shl]
  | x :: A, c => by simp [shl, shl_snoc2 r p s A]
theorem nBoundF_len {l : List Int} (h1 : W64 l) (h2 : l.length ≤ 17609365913600) : nBoundF l = some (bnd (val l)) := nBoundF_U ⟨h1, h2⟩
theorem wShlF_ok {a b : Nat} (ha : a < 18446744073709551616) (hb : b < 18446744073709551616) {r : Nat} (hr : r < 64) : wShlF ((a : Int), (b : Int), (r : Int)) = some (((a * 2 ^ r % 18446744073709551616 + b * 2 ^ r / 18446744073709551616 : Nat) : Int), ((b * 2 ^ r % 18446744073709551616 : Nat) : Int)) := by
  have h0 : 0 ≤ (r : Int) := by omega
  have h1 : (r : Int) < 64 := by omega
  rw [wShlF, gu_pos ⟨Wd.of ha, Wd.of hb, h0, h1⟩]
  rfl
theorem nShl_loop {n q r : Nat} (hq : n / 64 = q) (hn : n ≤ 9223372036854775807) (hr : r < 64) (Z : List Int) (hZ : Z.length = q) (hZw : W64 Z) : ∀ (m : Nat) (A C : List Int) (k : Nat), A.length = m + 1 → W64 A → W64 C → q + m + C.length ≤ 17600000000000 → m + 1 ≤ k →
    nShl_L26 k (n : Int) (r : Int) ((q + m : Nat) : Int) (Z ++ A ++ C) = some (bnd (val (Z ++ shl r 0 A ++ C)))
  | m, A, C, 0, _, _, _, _, hk => by omega
  | 0, A, C, k + 1, hA, hAw, hCw, hl, hk => by
    match A, hA with
    | [a], _ =>
      rw [W64.cons] at hAw
      obtain ⟨an, rfl, han⟩ := Wd.nat hAw.1
      have hlen : q < (Z ++ (an : Int) :: C).length := by simp [hZ]
      have e1 : Z ++ [(an : Int)] ++ C = Z ++ (an : Int) :: C := by simp
      have e2 : an * 2 ^ r % 18446744073709551616 < 18446744073709551616 := Nat.mod_lt _ (by omega)
      have hW : W64 (Z ++ ((an * 2 ^ r % 18446744073709551616 : Nat) : Int) :: C) := W64.append.2 ⟨hZw, by rw [W64.cons]; exact ⟨⟨by omega, by omega⟩, hCw⟩⟩
      rw [e1, nShl_L26, nShl_b26, tdiv64 hn, hq, cond_dec, if_neg (by omega), inR hlen, cond_t, cond_dec, if_pos (by omega), cond_t, Int.toNat_natCast, rdN_mid hZ, shlI_u64, wrI_mid hZ, nBoundF_len hW (by simp [hZ]; omega), Option.bind_some]
      simp [shl]
  | m + 1, A, C, k + 1, hA, hAw, hCw, hl, hk => by
    obtain ⟨A1, s, rfl⟩ : ∃ A1 s, A = A1 ++ [s] := ⟨A.dropLast, A.getLast (by intro e; rw [e] at hA; simp at hA), (List.dropLast_concat_getLast _).symm⟩
    rw [snoc_len] at hA
    obtain ⟨A2, p, rfl⟩ : ∃ A2 p, A1 = A2 ++ [p] := ⟨A1.dropLast, A1.getLast (by intro e; rw [e] at hA; simp at hA), (List.dropLast_concat_getLast _).symm⟩
    rw [snoc_len] at hA
    have hw1 := W64.append.1 hAw
    have hw2 := W64.append.1 hw1.1
    have hs := (W64.cons.1 hw1.2).1
    have hp := (W64.cons.1 hw2.2).1
    obtain ⟨sn, rfl, hsn⟩ := Wd.nat hs
    obtain ⟨pn, rfl, hpn⟩ := Wd.nat hp
    have e1 : Z ++ (A2 ++ [(pn : Int)] ++ [(sn : Int)]) ++ C = (Z ++ A2 ++ [(pn : Int)]) ++ (sn : Int) :: C := by simp
    have e2 : Z ++ (A2 ++ [(pn : Int)] ++ [(sn : Int)]) ++ C = (Z ++ A2) ++ (pn : Int) :: (sn : Int) :: C := by simp
    have hl1 : (Z ++ A2 ++ [(pn : Int)]).length = q + (m + 1) := by simp [hZ]; omega
    have hl2 : (Z ++ A2).length = q + m := by simp [hZ]; omega
    have hlen1 : q + (m + 1) < (Z ++ (A2 ++ [(pn : Int)] ++ [(sn : Int)]) ++ C).length := by rw [e1]; simp [hZ]; omega
    have hlen2 : q + m < (Z ++ (A2 ++ [(pn : Int)] ++ [(sn : Int)]) ++ C).length := by omega
    have e3 : subI .i64 ((q + (m + 1) : Nat) : Int) 1 = ((q + m : Nat) : Int) := by
      rw [subI_i64 (by omega)]
      omega
    have r1 : rdN (Z ++ (A2 ++ [(pn : Int)] ++ [(sn : Int)]) ++ C) (q + (m + 1)) = (sn : Int) := by rw [e1]; exact rdN_mid hl1
    have r2 : rdN (Z ++ (A2 ++ [(pn : Int)] ++ [(sn : Int)]) ++ C) (q + m) = (pn : Int) := by rw [e2]; exact rdN_mid hl2
    have w1 : ∀ d, wrI (Z ++ (A2 ++ [(pn : Int)] ++ [(sn : Int)]) ++ C) (q + (m + 1)) d = Z ++ (A2 ++ [(pn : Int)]) ++ (d :: C) := by
      intro d
      rw [e1, wrI_mid hl1]
      simp
    rw [nShl_L26, nShl_b26, tdiv64 hn, hq, cond_dec, if_pos (by omega), inR hlen1, cond_t, e3, inR hlen2, cond_t, Int.toNat_natCast, Int.toNat_natCast, r1, r2, wShlF_ok hsn hpn hr, Option.bind_some, cond_t, w1]
    have hd : sn * 2 ^ r % 18446744073709551616 + pn * 2 ^ r / 18446744073709551616 < 18446744073709551616 := by
      have := (W64.cons.1 (shl_W64 hr [(sn : Int)] (pn * 2 ^ r / 18446744073709551616) (by rw [W64.cons]; exact ⟨hs, W64.nil⟩) (by rw [mul_div_pow (by omega)]; exact div_pow_lt hpn (by omega)))).1.2
      rw [Int.toNat_natCast] at this
      omega
    have ih := nShl_loop hq hn hr Z hZ hZw m (A2 ++ [(pn : Int)]) ((((sn * 2 ^ r % 18446744073709551616 + pn * 2 ^ r / 18446744073709551616 : Nat) : Int)) :: C) k (by rw [snoc_len]; omega) hw1.1 (by rw [W64.cons]; exact ⟨⟨by omega, by omega⟩, hCw⟩) (by simp only [List.length_cons]; omega) (by omega)
    refine ih.trans ?_
    have := shl_snoc2 r (pn : Int) (sn : Int) A2 0
    rw [show A2 ++ [(pn : Int)] ++ [(sn : Int)] = A2 ++ [(pn : Int), (sn : Int)] from by simp, this]
    simp
theorem splice_at {x : List Int} {q m : Nat} (hm : x.length = m) : splice (List.replicate (q + m + 1) 0) q (x.take (q + m + 1 - q)) = List.replicate q 0 ++ (x ++ [0]) := by
  rw [List.take_of_length_le (by omega)]
  simp only [splice, List.take_replicate, List.drop_replicate, hm]
  rw [show min q (q + m + 1) = q from by omega, show q + m + 1 - (q + m) = 1 from by omega]
  simp
theorem blen_shl {v : Nat} (n : Nat) (h : v ≠ 0) : blen (v * 2 ^ n) = blen v + n := by
  have h1 := blen_lt v
  have h2 := blen_ge h
  have h3 : blen v ≠ 0 := fun e => h (by rw [e] at h1; simpa using h1)
  refine blen_unique ?_ (.inr ?_)
  · rw [Nat.pow_add]
    exact (Nat.mul_lt_mul_right (Nat.pow_pos (by omega))).2 h1
  · rw [show blen v + n - 1 = (blen v - 1) + n from by omega, Nat.pow_add]
    exact Nat.mul_le_mul_right _ h2
theorem nShl_law {a : List Int} {n : Int} {t : List Int × Int} (h : nShlF (a, n) = some t) : ∃ k : Nat, nShl_b0 (nShl_L26 k) a n = some t := by
  obtain ⟨⟨ha, hn⟩, rfl⟩ := gu_eq.1 h
  dsimp only at *
  have sa := sz_le a
  have la := ha.2
  have hla : (a.take (sz a)).length = sz a := by rw [List.length_take]; omega
  have va := val_take_sz ha.1
  have Va : V (a.take (sz a)) := ⟨ha.1.take _, by omega⟩
  have za := val_zero ha.1
  refine ⟨sz a + 1, ?_⟩
  have d1 : (bif decide ((0 : Int) ≤ ((sz a : Nat) : Int)) then decide (((sz a : Nat) : Int) ≤ ((a.length : Nat) : Int)) else false) = true := by
    rw [cond_dec, if_pos (by omega), decide_eq_true_eq]
    omega
  unfold nShl_b0
  rw [nSizeF_U ha.U, Option.bind_some, d1, cond_t, Int.toNat_natCast]
  have hbl1 := blen_V Va
  generalize a.take (sz a) = x at *
  rw [← va, ← hla]
  rw [cond_dec, cond_dec]
  by_cases c0 : n < 0
  · rw [if_pos c0, if_pos c0]
  · rw [if_neg c0, if_neg c0]
    obtain ⟨m, rfl⟩ := Int.eq_ofNat_of_zero_le (Int.not_lt.1 c0)
    by_cases c1 : x.length = 0
    · rw [if_pos (by omega), if_pos (by omega)]
    · have hx0 : val x ≠ 0 := by omega
      rw [if_neg (by omega), if_neg hx0, nBitsF_ok Va, Option.bind_some, subI_i64 (by omega), cond_dec, Int.toNat_natCast]
      by_cases c3 : (m : Int) > 262144 - ((blen (val x) : Nat) : Int)
      · rw [if_pos c3, if_neg (by omega)]
      · have a1 : addI .i64 ((m / 64 : Nat) : Int) ((x.length : Nat) : Int) = ((m / 64 : Nat) : Int) + ((x.length : Nat) : Int) := addI_i64 (by omega)
        have a2 : addI .i64 (((m / 64 : Nat) : Int) + ((x.length : Nat) : Int)) 1 = ((m / 64 : Nat) : Int) + ((x.length : Nat) : Int) + 1 := addI_i64 (by omega)
        rw [if_neg c3, if_pos (by omega), tdiv64 (by omega), tmod64, a1, a2]
        have hL : Int.toNat (((m / 64 : Nat) : Int) + ((x.length : Nat) : Int) + 1) = m / 64 + x.length + 1 := by omega
        have hLi : (((m / 64 : Nat) : Int) + ((x.length : Nat) : Int) + 1) = ((m / 64 + x.length + 1 : Nat) : Int) := by omega
        have hdel : Int.toNat (((m / 64 + x.length + 1 : Nat) : Int) - ((m / 64 : Nat) : Int)) = m / 64 + x.length + 1 - m / 64 := by omega
        rw [hL]
        simp only [List.length_replicate, Int.toNat_natCast, hdel, splice_at (x := x) rfl]
        rw [hLi]
        have f1 : decide ((0 : Int) ≤ ((m / 64 + x.length + 1 : Nat) : Int)) = true := by rw [decide_eq_true_eq]; omega
        have f2 : decide (((m / 64 + x.length + 1 : Nat) : Int) * 8 ≤ 281474976710656) = true := by rw [decide_eq_true_eq]; omega
        have f3 : decide ((0 : Int) ≤ ((m / 64 : Nat) : Int)) = true := by rw [decide_eq_true_eq]; omega
        have f4 : decide (((m / 64 : Nat) : Int) ≤ ((m / 64 + x.length + 1 : Nat) : Int)) = true := by rw [decide_eq_true_eq]; omega
        have f5 : decide (m / 64 + (m / 64 + x.length + 1 - m / 64) ≤ m / 64 + x.length + 1) = true := by rw [decide_eq_true_eq]; omega
        simp only [f1, f2, f3, f4, f5, cond_t]
        have hZ : W64 (List.replicate (m / 64) (0 : Int)) := W64.rep _
        have hX : W64 (x ++ [0]) := W64.append.2 ⟨Va.1, by rw [W64.cons]; exact ⟨Wd_zero, W64.nil⟩⟩
        have hlim : bnd (val x * 2 ^ m) = (can (val x * 2 ^ m), 0) := by
          exact bnd_lt (lt_Lim_blen.2 (by rw [blen_shl m hx0]; omega))
        have hpow : 18446744073709551616 ^ (m / 64) * 2 ^ (m % 64) = 2 ^ m := by
          rw [pow64, ← Nat.pow_add, show 64 * (m / 64) + m % 64 = m from by omega]
        rw [cond_dec]
        by_cases c4 : m % 64 = 0
        · rw [if_neg (by omega), nBoundF_len (W64.append.2 ⟨hZ, hX⟩) (by simp; omega), Option.bind_some]
          rw [c4, Nat.pow_zero, Nat.mul_one] at hpow
          have hv : val (List.replicate (m / 64) 0 ++ (x ++ [0])) = val x * 2 ^ m := by
            rw [val_append, val_rep, Nat.zero_add, List.length_replicate, hpow]
            have := val_app_zeros x 1
            rw [show List.replicate 1 (0 : Int) = [0] from rfl] at this
            rw [this, Nat.mul_comm]
          rw [hv, hlim]
        · rw [if_pos (by omega)]
          have e5 : subI .i64 (((List.replicate (m / 64) (0 : Int) ++ (x ++ [0])).length : Nat) : Int) 1 = ((m / 64 + x.length : Nat) : Int) := by
            simp only [List.length_append, List.length_replicate, List.length_singleton]
            rw [subI_i64 (by omega)]
            omega
          rw [e5]
          have := nShl_loop (n := m) (q := m / 64) (r := m % 64) rfl (by omega) (by omega) (List.replicate (m / 64) 0) (by simp) hZ x.length (x ++ [0]) [] (x.length + 1) (by simp) hX W64.nil (by simp; omega) (Nat.le_refl _)
          rw [List.append_nil, List.append_nil] at this
          refine this.trans ?_
          have hv : val (List.replicate (m / 64) 0 ++ shl (m % 64) 0 (x ++ [0])) = val x * 2 ^ m := by
            rw [val_append, val_rep, Nat.zero_add, List.length_replicate, shl_val, Nat.add_zero, ← hpow]
            generalize 18446744073709551616 ^ (m / 64) = P
            grind
          rw [hv, hlim]
def shr (r : Nat) : List Int → List Int
  | [] => []
  | x :: xs => (((x.toNat + 18446744073709551616 * (xs.headD 0).toNat) / 2 ^ r % 18446744073709551616 : Nat) : Int) :: shr r xs
theorem shr_W64 (r : Nat) : ∀ xs, W64 (shr r xs)
  | [] => W64.nil
  | x :: xs => by
    rw [shr, W64.cons]
    exact ⟨⟨by omega, by omega⟩, shr_W64 r xs⟩
theorem shr_len (r : Nat) : ∀ xs, (shr r xs).length = xs.length
  | [] => rfl
  | x :: xs => by simp [shr, shr_len r xs]
theorem shr_word {x h V r : Nat} (hr : r < 64) (hx : x < 18446744073709551616) (hh : h = V % 18446744073709551616) : (x + 18446744073709551616 * h) / 2 ^ r % 18446744073709551616 + 18446744073709551616 * (V / 2 ^ r) = (x + 18446744073709551616 * V) / 2 ^ r := by
  have hp : 0 < 2 ^ r := Nat.pow_pos (by omega)
  have hB : 18446744073709551616 = 2 ^ r * 2 ^ (64 - r) := by rw [Nat.mul_comm, pow_split (by omega)]
  have key : ∀ m, (x + 18446744073709551616 * m) / 2 ^ r = x / 2 ^ r + 2 ^ (64 - r) * m := by
    intro m
    rw [hB, Nat.mul_assoc, Nat.add_mul_div_left _ _ hp]
  rw [key, key]
  have hq : x / 2 ^ r < 2 ^ (64 - r) := by
    rw [Nat.div_lt_iff_lt_mul hp, pow_split (by omega)]
    exact hx
  have hV : V = h + 18446744073709551616 * (V / 18446744073709551616) := by omega
  have hdm := Nat.div_add_mod V (2 ^ r)
  have hhr : h % 2 ^ r = V % 2 ^ r := by
    rw [hV]
    conv => rhs; rw [hB, Nat.mul_assoc, Nat.add_mul_mod_self_left]
  have hdh := Nat.div_add_mod h (2 ^ r)
  have hm := Nat.mod_lt h hp
  have e1 : 2 ^ (64 - r) * h = 18446744073709551616 * (h / 2 ^ r) + 2 ^ (64 - r) * (h % 2 ^ r) := by
    conv => lhs; rw [← hdh]
    rw [hB]
    grind
  have e2 : 2 ^ (64 - r) * V = 18446744073709551616 * (V / 2 ^ r) + 2 ^ (64 - r) * (h % 2 ^ r) := by
    conv => lhs; rw [← hdm]
    rw [hhr, hB]
    grind
  have e3 : 2 ^ (64 - r) * (h % 2 ^ r) + 2 ^ (64 - r) ≤ 18446744073709551616 := by
    have := Nat.mul_le_mul_left (2 ^ (64 - r)) (show h % 2 ^ r + 1 ≤ 2 ^ r from hm)
    rw [pow_split (by omega), Nat.mul_succ] at this
    exact this
  rw [e1, e2]
  generalize 2 ^ (64 - r) * (h % 2 ^ r) = w at *
  clear e1 e2 key hdm hdh hhr hV
  generalize x / 2 ^ r = f at *
  generalize h / 2 ^ r = g at *
  generalize V / 2 ^ r = l at *
  omega
theorem head_val : ∀ (xs : List Int), W64 xs → (xs.headD 0).toNat = val xs % 18446744073709551616
  | [], _ => rfl
  | x :: xs, h => by
    rw [W64.cons] at h
    rw [val_cons, List.headD_cons]
    omega
theorem shr_val {r : Nat} (hr : r < 64) : ∀ (xs : List Int), W64 xs → val (shr r xs) = val xs / 2 ^ r
  | [], _ => by simp [shr]
  | x :: xs, h => by
    rw [W64.cons] at h
    rw [shr, val_cons, shr_val hr xs h.2, val_cons, Int.toNat_natCast]
    exact shr_word hr (by omega) (head_val xs h.2)
theorem wShrF_ok {a b : Int} (ha : Wd a) (hb : Wd b) {r : Nat} (hr : r < 64) : ∃ u w, wShrF (a, b, (r : Int)) = some (u, (((b.toNat + 18446744073709551616 * a.toNat) / 2 ^ r % 18446744073709551616 : Nat) : Int), w) := by
  have h0 : 0 ≤ (r : Int) := by omega
  have h1 : (r : Int) < 64 := by omega
  rw [wShrF, gu_pos ⟨ha, hb, h0, h1⟩]
  exact ⟨_, _, rfl⟩
theorem nShl_ok : CtrOk Go.Proofs.Tryz.prog 77 (mkF [.sl (.int .u64), .int .i64] [.sl (.int .u64), .int .i64] nShlF) := by
  refine mkF_ok (c := bodyOf Go.Proofs.Tryz.f77) (tab := S.tab) (cts := [(99, mkF [.sl (.int .u64)] [.int .i64] nSizeF), (100, mkF [.sl (.int .u64)] [.int .i64] nBitsF), (101, mkF [.int .u64, .int .u64, .int .i64] [.int .u64, .int .u64] wShlF), (102, mkF [.sl (.int .u64)] [.sl (.int .u64), .int .i64] nBoundF)]) (res := [4, 5]) tab_ok hm ⟨nSize_ok, nBits_ok, wShl_ok, nBound_ok, trivial⟩ Go.Proofs.Tryz.func77 (by kernel_rfl) (by kernel_rfl) (by kernel_rfl) (by kernel_rfl) (by kernel_rfl) ?_
  rintro ⟨a, b⟩ t h
  obtain ⟨k, hk⟩ := nShl_law h
  exact ⟨nShl_h, 3000, k, (nShl_ev k a b).trans hk⟩
end Go.RX.S
