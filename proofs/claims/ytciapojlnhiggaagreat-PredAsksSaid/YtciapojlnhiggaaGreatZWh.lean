/- Knuth's algorithm D. -/
import Derived.Test.YtciapojlnhiggaaGreatZWg
set_option linter.unusedVariables false
set_option linter.unusedSimpArgs false
namespace Go.RX.S
open Go Go.RX
theorem kn_up {P vl V12 wl T3 g : Nat} (hvl : vl ≤ P) (hg : g ≤ V12 + 1) (h : g * V12 ≤ T3) : (g - 1) * (vl + P * V12) ≤ wl + P * T3 := by
  rcases g with _ | h'
  · simp
  · rw [Nat.add_sub_cancel]
    rw [Nat.succ_mul] at h
    have h1 : h' * (vl + P * V12) = h' * vl + P * (h' * V12) := by rw [Nat.mul_add, Nat.mul_left_comm]
    have h2 : h' * vl ≤ P * h' := by rw [Nat.mul_comm P]; exact Nat.mul_le_mul_left _ hvl
    have h3 : P * (h' + h' * V12) ≤ P * T3 := Nat.mul_le_mul_left _ (by omega)
    rw [Nat.mul_add] at h3
    omega
theorem kn_lo {P vl V12 wl T3 g : Nat} (hwl : wl < P) (h : T3 < g * V12) : wl + P * T3 < g * (vl + P * V12) := by
  have h1 : P * (T3 + 1) ≤ P * (g * V12) := Nat.mul_le_mul_left _ h
  have h2 : g * (vl + P * V12) = g * vl + P * (g * V12) := by rw [Nat.mul_add, Nat.mul_left_comm]
  rw [Nat.mul_succ] at h1
  omega
/-- The three words at the top against two. -/
theorem kn_over {B V1 V2 T2 U3 g r : Nat} (h : T2 = g * V1 + r) (hr : g * V2 ≤ B * r + U3) : g * (V2 + B * V1) ≤ U3 + B * T2 := by
  rw [h, Nat.mul_add, Nat.mul_add, Nat.mul_left_comm]
  omega
theorem kn_under {B V1 V2 T2 U3 g r : Nat} (h : T2 = g * V1 + r) (hr : B * r + U3 < g * V2) : U3 + B * T2 < g * (V2 + B * V1) := by
  rw [h, Nat.mul_add, Nat.mul_add, Nat.mul_left_comm]
  omega
theorem kn_wide {B V1 V2 T2 U3 g r : Nat} (h : T2 = g * V1 + r) (hB : B ≤ r) (hg : g ≤ B) (hV2 : V2 ≤ B) : g * (V2 + B * V1) ≤ U3 + B * T2 := by
  refine kn_over h ?_
  have h1 : g * V2 ≤ B * B := Nat.mul_le_mul hg hV2
  have h2 : B * B ≤ B * r := Nat.mul_le_mul_left _ hB
  omega
theorem last2 {l : List Int} {d : Nat} (h : l.length = d + 2) : ∃ p a b, l = p ++ [a, b] ∧ p.length = d := by
  refine ⟨l.take d, l.getD d 0, l.getD (d + 1) 0, ?_, by rw [List.length_take]; omega⟩
  have h1 := take_snoc (l := l) (i := d) (by omega)
  have h2 := take_snoc (l := l) (i := d + 1) (by omega)
  rw [h1, show d + 1 + 1 = l.length from by omega, List.take_length, List.append_assoc] at h2
  exact h2
theorem last3 {l : List Int} {d : Nat} (h : l.length = d + 3) : ∃ p a b c, l = p ++ [a, b, c] ∧ p.length = d := by
  obtain ⟨p, a, b, rfl, hp⟩ := last2 (d := d + 1) h
  have hne : p ≠ [] := by rintro rfl; simp at hp
  refine ⟨p.dropLast, p.getLast hne, a, b, ?_, by rw [List.length_dropLast]; omega⟩
  conv => lhs; rw [← List.dropLast_concat_getLast hne]
  simp
theorem dig_top {n r : Nat} (h : r < 18446744073709551616 ^ n) : dig (n + 1) r = dig n r ++ [0] := by
  have h1 : W64 (dig n r ++ [0]) := W64.append.2 ⟨dig_ok _ _, by rw [W64.cons]; exact ⟨by omega, W64.nil⟩⟩
  have h2 : val (dig n r ++ [0]) = r := by rw [val_snoc, val_dig _ _ h]; simp
  have h3 := dig_val h1
  rw [h2, snoc_len, dig_len] at h3
  exact h3
theorem splice_mid {ul w w' ud : List Int} {m : Nat} (h : ul.length = m) (hw : w'.length = w.length) : splice (ul ++ w ++ ud) m w' = ul ++ w' ++ ud := by
  subst h
  have h1 : List.take ul.length (ul ++ w ++ ud) = ul := by rw [List.append_assoc]; exact List.take_left' rfl
  have h2 : List.drop (ul.length + w.length) (ul ++ w ++ ud) = ud := List.drop_left' (by simp)
  rw [splice, hw, h1, h2]
theorem window {ul w ud : List Int} {m n : Nat} (h : ul.length = m) (hw : w.length = n) : List.take n (List.drop m (ul ++ w ++ ud)) = w := by
  subst h hw
  rw [List.append_assoc, List.drop_left', List.take_left']
  · rfl
  · rfl
structure Knu (n : Nat) (v w : List Int) : Prop where
  n2 : 2 ≤ n
  nl : n ≤ 17592186044416
  vW : W64 v
  wW : W64 w
  vl : v.length = n
  wl : w.length = n + 1
  top : 9223372036854775808 ≤ v.getD (n - 1) 0
  lt : val w < 18446744073709551616 * val v
theorem takeF_ok {w v : List Int} {g : Nat} (hw : W64 w) (hv : W64 v) (hl : w.length = v.length + 1) (hn : v.length ≤ 17592186044416) (hg : g < 18446744073709551616) :
    takeF (w, v, (g : Int)) = some (dig w.length ((18446744073709551616 ^ w.length + val w - val v * g) % 18446744073709551616 ^ w.length), decide (val w < val v * g)) := by
  rw [takeF, gu_pos ⟨hw, ⟨hv, hn⟩, Wd.of hg, hl⟩]
  simp only [Int.toNat_natCast]
theorem giveF_ok {w v : List Int} (hw : W64 w) (hv : W64 v) (hl : w.length = v.length + 1) (hn : v.length ≤ 17592186044416) :
    giveF (w, v) = some (dig w.length ((val w + val v) % 18446744073709551616 ^ w.length), ()) := by
  rw [giveF, gu_pos ⟨hw, ⟨hv, hn⟩, hl⟩]
theorem long39 {n : Nat} {v w : List Int} (D : Knu n v w) {L17 : Int → Int → Int → List Int → List Int → List Int → Option (List Int × List Int)} {L29 : Int → Int → Int → Int → Int → List Int → List Int → List Int → Option (List Int × List Int)} {L39 : Int → Int → Int → Int → List Int → List Int → List Int → Option (List Int × List Int)}
    {ul ud qs : List Int} {m : Nat} {s : Int} (hm : ul.length = m) (hml : m + n + 1 + ud.length ≤ 17600000000000) {res : Option (List Int × List Int)}
    (hnext : L17 (n : Int) s ((m : Int) - 1) v (ul ++ dig (n + 1) (val w % val v) ++ ud) (List.replicate m 0 ++ ((val w / val v : Nat) : Int) :: qs) = res)
    {g : Nat} (hg1 : val w / val v ≤ g) (hg2 : (g - 1) * val v ≤ val w) (hg3 : g < 18446744073709551616) :
    long_b39 L17 L29 L39 (g : Int) (n : Int) s (m : Int) v (ul ++ w ++ ud) (List.replicate (m + 1) 0 ++ qs) = res := by
  obtain ⟨hn2, hnl, hvW, hwW, hvl, hwl, htop, hlt⟩ := D
  have hV := val_lt hvW
  have hW := val_lt hwW
  rw [hvl] at hV
  rw [hwl] at hW
  have e1 : addI .i64 (addI .i64 (m : Int) (n : Int)) 1 = ((m + n + 1 : Nat) : Int) := by
    rw [addI_i64 (a := (m : Int)) (by omega), addI_i64 (by omega)]
    omega
  have e2 : Int.toNat (((m + n + 1 : Nat) : Int) - (m : Int)) = n + 1 := by omega
  have hlen : (ul ++ w ++ ud).length = m + n + 1 + ud.length := by simp [hm, hwl]; omega
  have hqin : m < (List.replicate (m + 1) (0 : Int) ++ qs).length := by simp; omega
  have hrep : List.replicate (m + 1) (0 : Int) ++ qs = List.replicate m 0 ++ 0 :: qs := by
    rw [List.replicate_succ', List.append_assoc]
    rfl
  have hwr : ∀ y, wrI (List.replicate (m + 1) (0 : Int) ++ qs) m y = List.replicate m 0 ++ y :: qs := by
    intro y
    rw [hrep, wrI_mid (by simp)]
  have hdec : subI .i64 (m : Int) 1 = (m : Int) - 1 := subI_i64 (by omega)
  have hg : val v * g = g * val v := Nat.mul_comm _ _
  have hbig : val v * g ≤ 18446744073709551616 ^ (n + 1) := by
    rw [Nat.pow_succ]
    exact Nat.mul_le_mul (by omega) (by omega)
  have hdm := Nat.div_add_mod (val w) (val v)
  have hguard : ∀ L : Nat, m + n + 1 ≤ L → (bif bif decide ((0 : Int) ≤ (m : Int)) then decide ((m : Int) ≤ ((m + n + 1 : Nat) : Int)) else false then decide (((m + n + 1 : Nat) : Int) ≤ (L : Int)) else false) = true := by
    intro L hL
    rw [decide_eq_true (show (0 : Int) ≤ (m : Int) by omega), cond_t, decide_eq_true (show (m : Int) ≤ ((m + n + 1 : Nat) : Int) by omega), cond_t, decide_eq_true_eq]
    omega
  rw [long_b39, e1, e2, Int.toNat_natCast, hguard _ (by omega), cond_t, cond_dec, if_pos (by omega), window hm hwl, takeF_ok hwW hvW (by omega) (by omega) hg3, Option.bind_some]
  dsimp only
  have hwl' : (dig w.length ((18446744073709551616 ^ w.length + val w - val v * g) % 18446744073709551616 ^ w.length)).length = w.length := dig_len _ _
  rw [splice_mid hm hwl', inR hqin, hwl]
  have hvd : val (dig (n + 1) ((18446744073709551616 ^ (n + 1) + val w - val v * g) % 18446744073709551616 ^ (n + 1))) = (18446744073709551616 ^ (n + 1) + val w - val v * g) % 18446744073709551616 ^ (n + 1) := val_dig _ _ (Nat.mod_lt _ (Nat.pow_pos (by omega)))
  have hpos : 0 < val v := by omega
  have hml := Nat.mod_lt (val w) hpos
  by_cases c : val w < val v * g
  · -- too much: one is given back
    have hgq : g = val w / val v + 1 := by
      have h1 : g - 1 ≤ val w / val v := (Nat.le_div_iff_mul_le hpos).2 hg2
      have h2 : val w / val v < g := (Nat.div_lt_iff_lt_mul hpos).2 (by rw [← hg]; exact c)
      omega
    have hgv : val v * g = val v * (val w / val v) + val v := by rw [hgq, Nat.mul_succ]
    have hl2 : (dig (n + 1) ((18446744073709551616 ^ (n + 1) + val w - val v * g) % 18446744073709551616 ^ (n + 1))).length = n + 1 := dig_len _ _
    have hm1 : (18446744073709551616 ^ (n + 1) + val w - val v * g) % 18446744073709551616 ^ (n + 1) = 18446744073709551616 ^ (n + 1) + val w - val v * g := Nat.mod_eq_of_lt (by omega)
    have hlen2 : (ul ++ dig (n + 1) ((18446744073709551616 ^ (n + 1) + val w - val v * g) % 18446744073709551616 ^ (n + 1)) ++ ud).length = m + n + 1 + ud.length := by
      simp [hm, hl2]
      omega
    have hgive := giveF_ok (w := dig (n + 1) ((18446744073709551616 ^ (n + 1) + val w - val v * g) % 18446744073709551616 ^ (n + 1))) (dig_ok _ _) hvW (by omega) (by omega)
    rw [hl2, hvd, hm1, show 18446744073709551616 ^ (n + 1) + val w - val v * g + val v = 18446744073709551616 ^ (n + 1) + val w % val v from by omega, Nat.add_mod_left, Nat.mod_eq_of_lt (a := val w % val v) (by omega)] at hgive
    have hone : subI .u64 (g : Int) 1 = ((val w / val v : Nat) : Int) := by
      have hq : val w / val v < 18446744073709551616 := by omega
      obtain ⟨q, hq'⟩ : ∃ q, val w / val v = q := ⟨_, rfl⟩
      rw [hq'] at hgq hq ⊢
      rw [subI_u64, hgq]
      clear hgive
      omega
    rw [decide_eq_true c, cond_t, hlen2, hguard _ (by omega), cond_t, cond_dec, if_pos (by omega), window hm hl2, hm1, hgive, Option.bind_some, cond_t, hdec, hwr, hone]
    rw [splice_mid hm (by rw [dig_len, dig_len])]
    exact hnext
  · have hgq : g = val w / val v := digit_eq hg1 (by rw [← hg]; omega) hpos
    have hgv : val v * g = val v * (val w / val v) := by rw [hgq]
    have hm1 : (18446744073709551616 ^ (n + 1) + val w - val v * g) % 18446744073709551616 ^ (n + 1) = val w % val v := by
      rw [show 18446744073709551616 ^ (n + 1) + val w - val v * g = 18446744073709551616 ^ (n + 1) + val w % val v from by omega, Nat.add_mod_left, Nat.mod_eq_of_lt (by omega)]
    rw [decide_eq_false c, cond_f, cond_t, hdec, hwr, hm1, hgq]
    exact hnext
theorem val_two {a b : Nat} : val [(a : Int), (b : Int)] = a + 18446744073709551616 * b := by simp [val_cons, val_nil]
theorem val_three {a b c : Nat} : val [(a : Int), (b : Int), (c : Int)] = a + 18446744073709551616 * (b + 18446744073709551616 * c) := by simp [val_cons, val_nil]
theorem wCmpF_le {hi lo r u : Nat} (hl : lo < 18446744073709551616) (hu : u < 18446744073709551616) : ∃ c : Int, wCmpF ((hi : Int), (lo : Int), (r : Int), (u : Int)) = some c ∧ (c ≤ 0 ↔ 18446744073709551616 * hi + lo ≤ 18446744073709551616 * r + u) := by
  rw [wCmpF, gu_pos trivial]
  refine ⟨_, rfl, ?_⟩
  dsimp only
  split
  · omega
  · split <;> omega
structure Top (n d : Nat) (v w vl wl : List Int) (v1 v2 u1 u2 u3 : Nat) : Prop where
  knu : Knu n v w
  hd : n = d + 2
  hv : v = vl ++ [(v2 : Int), (v1 : Int)]
  hw : w = wl ++ [(u3 : Int), (u2 : Int), (u1 : Int)]
  hvl : vl.length = d
  hwl : wl.length = d
  b1 : v1 < 18446744073709551616
  b2 : v2 < 18446744073709551616
  b3 : u1 < 18446744073709551616
  b4 : u2 < 18446744073709551616
  b5 : u3 < 18446744073709551616
  v63 : 9223372036854775808 ≤ v1
  ev : val v = val vl + 18446744073709551616 ^ d * (v2 + 18446744073709551616 * v1)
  ew : val w = val wl + 18446744073709551616 ^ d * (u3 + 18446744073709551616 * (u2 + 18446744073709551616 * u1))
  lv : val vl < 18446744073709551616 ^ d
  lw : val wl < 18446744073709551616 ^ d
theorem Knu.top' {n : Nat} {v w : List Int} (D : Knu n v w) : ∃ d vl wl v1 v2 u1 u2 u3, Top n d v w vl wl v1 v2 u1 u2 u3 := by
  have D' := D
  obtain ⟨hn2, hnl, hvW, hwW, hvl, hwl, htop, hlt⟩ := D
  obtain ⟨d, rfl⟩ : ∃ d, n = d + 2 := ⟨n - 2, by omega⟩
  obtain ⟨vl, v2, v1, rfl, hvl'⟩ := last2 hvl
  obtain ⟨wl, u3, u2, u1, rfl, hwl'⟩ := last3 (d := d) hwl
  have hv2 := W64.append.1 hvW
  have hw2 := W64.append.1 hwW
  have h3 := W64.cons.1 hv2.2
  have h4 := W64.cons.1 h3.2
  have h5 := W64.cons.1 hw2.2
  have h6 := W64.cons.1 h5.2
  have h7 := W64.cons.1 h6.2
  obtain ⟨v2, rfl, b2⟩ := Wd.nat h3.1
  obtain ⟨v1, rfl, b1⟩ := Wd.nat h4.1
  obtain ⟨u3, rfl, b5⟩ := Wd.nat h5.1
  obtain ⟨u2, rfl, b4⟩ := Wd.nat h6.1
  obtain ⟨u1, rfl, b3⟩ := Wd.nat h7.1
  have hl1 := val_lt hv2.1
  have hl2 := val_lt hw2.1
  rw [hvl'] at hl1
  rw [hwl'] at hl2
  refine ⟨d, vl, wl, v1, v2, u1, u2, u3, ⟨D', rfl, rfl, rfl, hvl', hwl', b1, b2, b3, b4, b5, ?_, by rw [val_append, hvl', val_two], by rw [val_append, hwl', val_three], hl1, hl2⟩⟩
  have : (vl ++ [(v2 : Int), (v1 : Int)]).getD (d + 2 - 1) 0 = (v1 : Int) := by
    rw [List.getD_eq_getElem?_getD, List.getElem?_append_right (by omega), hvl', show d + 2 - 1 - d = 1 from by omega]
    rfl
  rw [this] at htop
  omega
theorem digit_le {W V g : Nat} (hV : 0 < V) (h : W < (g + 1) * V) : W / V ≤ g := Nat.le_of_lt_succ ((Nat.div_lt_iff_lt_mul hV).2 h)
section
variable {n d : Nat} {v w vl wl : List Int} {v1 v2 u1 u2 u3 : Nat} (D : Top n d v w vl wl v1 v2 u1 u2 u3)
include D
theorem Top.vpos : 0 < val v := by
  rw [D.ev]
  have h1 := D.v63
  have h2 : 0 < 18446744073709551616 ^ d * (v2 + 18446744073709551616 * v1) := Nat.mul_pos (Nat.pow_pos (by omega)) (by omega)
  omega
theorem Top.up {g : Nat} (hg : g < 18446744073709551616) (h : g * (v2 + 18446744073709551616 * v1) ≤ u3 + 18446744073709551616 * (u2 + 18446744073709551616 * u1)) : (g - 1) * val v ≤ val w := by
  rw [D.ev, D.ew]
  have h1 := D.v63
  exact kn_up (Nat.le_of_lt D.lv) (by omega) h
theorem Top.lo {g : Nat} (h : u3 + 18446744073709551616 * (u2 + 18446744073709551616 * u1) < g * (v2 + 18446744073709551616 * v1)) : val w < g * val v := by
  rw [D.ev, D.ew]
  exact kn_lo D.lw h
theorem Top.rd2 : rdN v (n - 2) = (v2 : Int) := by
  rw [D.hv, D.hd]
  exact rdN_mid (by rw [D.hvl]; omega)
theorem Top.rd1 : rdN v (n - 1) = (v1 : Int) := by
  have h : v = (vl ++ [(v2 : Int)]) ++ (v1 : Int) :: [] := by rw [D.hv]; simp
  rw [h, D.hd]
  exact rdN_mid (by rw [snoc_len, D.hvl]; omega)
theorem Top.rdu {ul ud : List Int} {m : Nat} (hm : ul.length = m) : rdN (ul ++ w ++ ud) (m + n - 2) = (u3 : Int) ∧ rdN (ul ++ w ++ ud) (m + n - 1) = (u2 : Int) ∧ rdN (ul ++ w ++ ud) (m + n) = (u1 : Int) := by
  have h1 : ul ++ w ++ ud = (ul ++ wl) ++ (u3 : Int) :: ([(u2 : Int), (u1 : Int)] ++ ud) := by rw [D.hw]; simp
  have h2 : ul ++ w ++ ud = (ul ++ wl ++ [(u3 : Int)]) ++ (u2 : Int) :: ([(u1 : Int)] ++ ud) := by rw [D.hw]; simp
  have h3 : ul ++ w ++ ud = (ul ++ wl ++ [(u3 : Int), (u2 : Int)]) ++ (u1 : Int) :: ud := by rw [D.hw]; simp
  have hd := D.hd
  have hwl := D.hwl
  refine ⟨?_, ?_, ?_⟩
  · rw [h1]
    exact rdN_mid (by simp; omega)
  · rw [h2]
    exact rdN_mid (by simp; omega)
  · rw [h3]
    exact rdN_mid (by simp; omega)
theorem long29 {ul ud qs : List Int} {m : Nat} {s : Int} (hm : ul.length = m) (hml : m + n + 1 + ud.length ≤ 17600000000000) {res : Option (List Int × List Int)} (K : Nat)
    (hout : ∀ k, K ≤ k → ∀ g : Nat, val w / val v ≤ g → (g - 1) * val v ≤ val w → g < 18446744073709551616 → long_L39 k (g : Int) (n : Int) s (m : Int) v (ul ++ w ++ ud) qs = res) :
    ∀ i k, K + i + 1 ≤ k → ∀ g r : Nat, val w / val v ≤ g → g < 18446744073709551616 → u2 + 18446744073709551616 * u1 = g * v1 + r → r < 18446744073709551616 → 18446744073709551616 ≤ r + i * v1 →
      long_L29 k (g : Int) (r : Int) (n : Int) s (m : Int) v (ul ++ w ++ ud) qs = res
  | 0, k, hk, g, r, hg, hgb, hr, hrb, hi => by omega
  | i + 1, 0, hk, _, _, _, _, _, _, _ => by omega
  | i + 1, k + 1, hk, g, r, hg, hgb, hr, hrb, hi => by
    have hd := D.hd
    have hn := D.knu.nl
    have hvl := D.knu.vl
    have hwl := D.knu.wl
    have hlen : (ul ++ w ++ ud).length = m + n + 1 + ud.length := by simp [hm, hwl]; omega
    have e2 : subI .i64 (n : Int) 2 = ((n - 2 : Nat) : Int) := by rw [subI_i64 (by omega)]; omega
    have e1 : subI .i64 (n : Int) 1 = ((n - 1 : Nat) : Int) := by rw [subI_i64 (by omega)]; omega
    have e3 : subI .i64 (addI .i64 (m : Int) (n : Int)) 2 = ((m + n - 2 : Nat) : Int) := by
      rw [addI_i64 (by omega), subI_i64 (by omega)]
      omega
    have hp : g * v2 ≤ 18446744073709551615 * 18446744073709551615 := Nat.mul_le_mul (by omega) (by have := D.b2; omega)
    have hdm := Nat.div_add_mod (g * v2) 18446744073709551616
    obtain ⟨c, hc, hci⟩ := wCmpF_le (hi := g * v2 / 18446744073709551616) (lo := g * v2 % 18446744073709551616) (r := r) (u := u3) (Nat.mod_lt _ (by omega)) D.b5
    rw [hdm] at hci
    have hv1 := D.b1
    have hadd := wAddF_nat (a := r) (b := v1) hrb hv1
    rw [long_L29, long_b29, e1, e2, e3, inR (by omega), cond_t, Int.toNat_natCast, Int.toNat_natCast, Int.toNat_natCast, D.rd2, D.rd1, (D.rdu hm).1, wMulF_ok hgb D.b2, Option.bind_some, inR (by omega), cond_t]
    dsimp only
    rw [hc, Option.bind_some, cond_dec]
    by_cases hle : g * v2 ≤ 18446744073709551616 * r + u3
    · rw [if_pos (hci.2 hle)]
      exact hout k (by omega) g hg (D.up hgb (kn_over hr hle)) hgb
    · rw [if_neg (fun h => hle (hci.1 h)), inR (by omega), cond_t, hadd, Option.bind_some, cond_dec]
      have hun := D.lo (kn_under hr (Nat.lt_of_not_le hle))
      have hg1 : val w / val v ≤ g - 1 := digit_less hg hun D.vpos
      have hg0 : 0 < g := by
        rcases Nat.eq_zero_or_pos g with h | h
        · rw [h, Nat.zero_mul] at hle
          omega
        · exact h
      have hone : subI .u64 (g : Int) 1 = ((g - 1 : Nat) : Int) := by
        rw [subI_u64]
        omega
      have hr' : u2 + 18446744073709551616 * u1 = (g - 1) * v1 + (r + v1) := by
        obtain ⟨h, rfl⟩ : ∃ h, g = h + 1 := ⟨g - 1, by omega⟩
        rw [Nat.add_sub_cancel]
        rw [Nat.succ_mul h v1] at hr
        omega
      rw [hone]
      by_cases hcy : r + v1 < 18446744073709551616
      · have h1 : (r + v1) / 18446744073709551616 = 0 := by omega
        have h2 : (r + v1) % 18446744073709551616 = r + v1 := Nat.mod_eq_of_lt hcy
        rw [h1, h2]
        dsimp only
        rw [if_pos (show ((0 : Nat) : Int) = 0 from rfl)]
        refine long29 hm hml K hout i k (by omega) (g - 1) (r + v1) hg1 (by omega) hr' hcy ?_
        rw [Nat.succ_mul] at hi
        omega
      · have h1 : (r + v1) / 18446744073709551616 = 1 := by omega
        rw [h1]
        dsimp only
        rw [if_neg (by decide)]
        exact hout k (by omega) (g - 1) hg1 (D.up (by omega) (kn_wide hr' (by omega) (by omega) (Nat.le_of_lt D.b2))) (by omega)
theorem long17 {ul ud qs : List Int} {m : Nat} {s : Int} (hm : ul.length = m) (hml : m + n + 1 + ud.length ≤ 17600000000000) {res : Option (List Int × List Int)} (K : Nat)
    (hnext : ∀ k, K ≤ k → long_L17 k (n : Int) s ((m : Int) - 1) v (ul ++ dig (n + 1) (val w % val v) ++ ud) (List.replicate m 0 ++ ((val w / val v : Nat) : Int) :: qs) = res) :
    ∀ k, K + 5 ≤ k → long_L17 k (n : Int) s (m : Int) v (ul ++ w ++ ud) (List.replicate (m + 1) 0 ++ qs) = res := by
  intro k hk
  obtain ⟨k, rfl⟩ : ∃ j, k = j + 1 := ⟨k - 1, by omega⟩
  have h39 : ∀ k, K + 1 ≤ k → ∀ g : Nat, val w / val v ≤ g → (g - 1) * val v ≤ val w → g < 18446744073709551616 → long_L39 k (g : Int) (n : Int) s (m : Int) v (ul ++ w ++ ud) (List.replicate (m + 1) 0 ++ qs) = res := by
    intro k hk g h1 h2 h3
    obtain ⟨k, rfl⟩ : ∃ j, k = j + 1 := ⟨k - 1, by omega⟩
    rw [long_L39]
    exact long39 D.knu hm hml (hnext k (by omega)) h1 h2 h3
  have h29 := long29 D hm hml (K + 1) h39
  have hd := D.hd
  have hn := D.knu.nl
  have hvl := D.knu.vl
  have hwl := D.knu.wl
  have hlen : (ul ++ w ++ ud).length = m + n + 1 + ud.length := by simp [hm, hwl]; omega
  have e1 : subI .i64 (n : Int) 1 = ((n - 1 : Nat) : Int) := by rw [subI_i64 (by omega)]; omega
  have e3 : addI .i64 (m : Int) (n : Int) = ((m + n : Nat) : Int) := by rw [addI_i64 (by omega)]; omega
  have e4 : subI .i64 ((m + n : Nat) : Int) 1 = ((m + n - 1 : Nat) : Int) := by
    rw [subI_i64 (by omega)]
    omega
  obtain ⟨r3, r2, r1⟩ := D.rdu (ud := ud) hm
  have hlt := D.knu.lt
  have hvp := D.vpos
  have hb1 := D.b1
  have hb3 := D.b3
  have hb4 := D.b4
  have hb5 := D.b5
  have hv63 := D.v63
  have hmax : val w / val v ≤ 18446744073709551615 := by
    apply Nat.le_of_lt_succ
    rw [Nat.div_lt_iff_lt_mul hvp]
    exact hlt
  -- the top word is not above the divisor's
  have htop : u1 ≤ v1 := by
    rcases Nat.lt_or_ge v1 u1 with h | h
    · exfalso
      have h1 := D.lv
      have h2 := D.b2
      have h3 : 18446744073709551616 * val v < val w := by
        have h4 : 18446744073709551616 ^ d * (18446744073709551616 * (v2 + 18446744073709551616 * v1 + 1)) ≤ 18446744073709551616 ^ d * (u3 + 18446744073709551616 * (u2 + 18446744073709551616 * u1)) := Nat.mul_le_mul_left _ (by omega)
        rw [D.ev, D.ew]
        have h5 : 18446744073709551616 * (val vl + 18446744073709551616 ^ d * (v2 + 18446744073709551616 * v1)) < 18446744073709551616 ^ d * (18446744073709551616 * (v2 + 18446744073709551616 * v1 + 1)) := by
          rw [Nat.mul_left_comm, Nat.mul_succ]
          omega
        omega
      omega
    · exact h
  rw [long_L17, long_b17, cond_dec, if_neg (by omega), e3, e4, e1, inR (by omega), cond_t, inR (by omega), cond_t, Int.toNat_natCast, Int.toNat_natCast, Int.toNat_natCast, r1, r2, D.rd1, cond_dec]
  by_cases c : u1 = v1
  · subst c
    have hadd := wAddF_nat (a := u2) (b := u1) hb4 hb1
    have hT : u2 + 18446744073709551616 * u1 = 18446744073709551615 * u1 + (u2 + u1) := by omega
    rw [if_pos rfl, inR (by omega), cond_t, cond_t, hadd, Option.bind_some, cond_dec]
    dsimp only
    by_cases hcy : u2 + u1 < 18446744073709551616
    · have h1 : (u2 + u1) / 18446744073709551616 = 0 := by omega
      have h2 : (u2 + u1) % 18446744073709551616 = u2 + u1 := Nat.mod_eq_of_lt hcy
      rw [h1, h2, if_neg (by decide)]
      exact h29 2 k (by omega) 18446744073709551615 (u2 + u1) hmax (by omega) hT hcy (by omega)
    · have h1 : (u2 + u1) / 18446744073709551616 = 1 := by omega
      rw [h1, if_pos (show ((1 : Nat) : Int) = 1 from rfl)]
      exact h39 k (by omega) 18446744073709551615 hmax (D.up (by omega) (kn_wide hT (by omega) (by omega) (Nat.le_of_lt D.b2))) (by omega)
  · have hlt1 : u1 < v1 := by omega
    have hdiv := wDivF_ok (a := u1) (b := u2) (c := v1) hb4 hb1 hlt1
    have hdm := Nat.div_add_mod (u1 * 18446744073709551616 + u2) v1
    have hmv := Nat.mod_lt (u1 * 18446744073709551616 + u2) (show 0 < v1 by omega)
    have hq : (u1 * 18446744073709551616 + u2) / v1 < 18446744073709551616 := by
      rw [Nat.div_lt_iff_lt_mul (by omega)]
      have : (u1 + 1) * 18446744073709551616 ≤ v1 * 18446744073709551616 := Nat.mul_le_mul_right _ hlt1
      rw [Nat.mul_comm v1] at this
      omega
    rw [if_neg (by omega), cond_t, inR (by omega), cond_t, cond_t, hdiv, Option.bind_some]
    dsimp only
    obtain ⟨g, hgq⟩ : ∃ g, (u1 * 18446744073709551616 + u2) / v1 = g := ⟨_, rfl⟩
    obtain ⟨r, hrr⟩ : ∃ r, (u1 * 18446744073709551616 + u2) % v1 = r := ⟨_, rfl⟩
    rw [hgq, hrr] at hdm
    rw [hgq] at hq
    rw [hrr] at hmv
    rw [hgq, hrr]
    have hT : u2 + 18446744073709551616 * u1 = g * v1 + r := by
      rw [Nat.mul_comm g, Nat.mul_comm 18446744073709551616]
      omega
    refine h29 2 k (by omega) g r ?_ hq hT (by omega) (by omega)
    refine digit_le hvp (D.lo ?_)
    have h5 : (g + 1) * (v2 + 18446744073709551616 * v1) = (g + 1) * v2 + (18446744073709551616 * (g * v1) + 18446744073709551616 * v1) := by
      rw [Nat.mul_add, Nat.mul_left_comm, Nat.succ_mul g v1, Nat.mul_add]
    rw [hT, h5, Nat.mul_add]
    omega
end
theorem long_all {n : Nat} (hn2 : 2 ≤ n) (hnl : n ≤ 17592186044416) {v : List Int} (hv : W64 v) (hvl : v.length = n) (htop : 9223372036854775808 ≤ v.getD (n - 1) 0) {s : Nat} (hs : s < 64) :
    ∀ (m : Nat) (ul uw ud qs : List Int) (k : Nat), ul.length = m → uw.length = n → W64 ul → W64 uw → W64 qs → val uw < val v → m + n + 1 + ud.length ≤ 17600000000000 → m + qs.length ≤ 17600000000000 → 5 * m + 1 ≤ k →
      long_L17 k (n : Int) (s : Int) ((m : Int) - 1) v (ul ++ uw ++ ud) (List.replicate m 0 ++ qs) = some (can ((val ul + 18446744073709551616 ^ m * val uw) / val v + 18446744073709551616 ^ m * val qs), can ((val ul + 18446744073709551616 ^ m * val uw) % val v / 2 ^ s))
  | 0, ul, uw, ud, qs, k, h1, h2, h3, h4, h5, h6, h7, h8, hk => by
    obtain ⟨k, rfl⟩ : ∃ j, k = j + 1 := ⟨k - 1, by omega⟩
    obtain rfl : ul = [] := List.length_eq_zero_iff.1 h1
    have hU : U qs := ⟨h5, by omega⟩
    have hlen : (([] : List Int) ++ uw ++ ud).length = n + ud.length := by simp [h2]
    have hV : V uw := ⟨h4, by omega⟩
    have e1 : Int.toNat ((n : Int) - 0) = n := by omega
    have e2 : List.take n ([] ++ uw ++ ud) = uw := by rw [List.nil_append]; exact List.take_left' h2
    have hsh : qshrF (uw, (s : Int)) = some (can (val uw / 2 ^ s)) := by
      rw [qshrF, gu_pos ⟨hV, by omega, by omega⟩]
      dsimp only
      rw [Int.toNat_natCast]
    rw [long_L17, long_b17, cond_dec, if_pos (by omega), List.replicate_zero, List.nil_append, nNormF_U hU, Option.bind_some, hlen, decide_eq_true (show (0 : Int) ≤ (n : Int) by omega), cond_t, cond_dec, if_pos (by omega), e1, e2, hsh, Option.bind_some, val_nil, Nat.pow_zero, Nat.zero_add, Nat.one_mul, Nat.one_mul, Nat.div_eq_of_lt h6, Nat.mod_eq_of_lt h6, Nat.zero_add]
  | m + 1, ul, uw, ud, qs, k, h1, h2, h3, h4, h5, h6, h7, h8, hk => by
    obtain ⟨x, hx⟩ : ∃ x, ul = ul.dropLast ++ [x] := by
      have hne : ul ≠ [] := by rintro rfl; simp at h1
      exact ⟨ul.getLast hne, (List.dropLast_concat_getLast hne).symm⟩
    have hll : ul.dropLast.length = m := by rw [List.length_dropLast]; omega
    obtain ⟨ul', hul⟩ : ∃ l, ul.dropLast = l := ⟨_, rfl⟩
    rw [hul] at hx hll
    subst hx
    have h3' := W64.append.1 h3
    have hxw := (W64.cons.1 h3'.2).1
    obtain ⟨xn, rfl, hxn⟩ := Wd.nat hxw
    have hw : W64 ((xn : Int) :: uw) := by rw [W64.cons]; exact ⟨hxw, h4⟩
    have hvw : val ((xn : Int) :: uw) = xn + 18446744073709551616 * val uw := by rw [val_cons, Int.toNat_natCast]
    have hlt : val ((xn : Int) :: uw) < 18446744073709551616 * val v := by
      rw [hvw]
      omega
    have D : Knu n v ((xn : Int) :: uw) := ⟨hn2, hnl, hv, hw, hvl, by simp [h2], htop, hlt⟩
    obtain ⟨d, vl, wl, v1, v2, u1, u2, u3, T⟩ := D.top'
    have hvp := T.vpos
    have e1 : ul' ++ [(xn : Int)] ++ uw ++ ud = ul' ++ (xn : Int) :: uw ++ ud := by simp
    have e2 : (((m + 1 : Nat) : Int)) - 1 = (m : Int) := by omega
    rw [e1, e2]
    obtain ⟨W, hW⟩ : ∃ W, val ((xn : Int) :: uw) = W := ⟨_, rfl⟩
    have hmv := Nat.mod_lt W hvp
    have hdm := Nat.div_add_mod W (val v)
    have hVl := val_lt hv
    rw [hvl] at hVl
    have hqw : W / val v < 18446744073709551616 := by
      rw [Nat.div_lt_iff_lt_mul hvp, ← hW]
      exact hlt
    refine long17 T hll (by omega) (5 * m + 1) ?_ k (by omega)
    intro k hk
    rw [hW, dig_top (by omega)]
    have e3 : ul' ++ (dig n (W % val v) ++ [0]) ++ ud = ul' ++ dig n (W % val v) ++ (0 :: ud) := by simp
    rw [e3]
    have ih := long_all hn2 hnl hv hvl htop hs m ul' (dig n (W % val v)) (0 :: ud) (((W / val v : Nat) : Int) :: qs) k hll (dig_len _ _) h3'.1 (dig_ok _ _) (by rw [W64.cons]; exact ⟨Wd.of hqw, h5⟩) (by rw [val_dig _ _ (by omega)]; exact hmv) (by simp only [List.length_cons]; omega) (by simp only [List.length_cons]; omega) hk
    rw [ih, val_dig _ _ (by omega)]
    have key : val (ul' ++ [(xn : Int)]) + 18446744073709551616 ^ (m + 1) * val uw = (val ul' + 18446744073709551616 ^ m * (W % val v)) + val v * (18446744073709551616 ^ m * (W / val v)) := by
      rw [val_snoc, hll, Nat.pow_succ, Int.toNat_natCast]
      have h9 : 18446744073709551616 ^ m * (val v * (W / val v) + W % val v) = 18446744073709551616 ^ m * (xn + 18446744073709551616 * val uw) := by rw [hdm, ← hW, hvw]
      rw [Nat.mul_add, Nat.mul_add, Nat.mul_left_comm] at h9
      rw [Nat.mul_assoc]
      omega
    rw [key, Nat.add_mul_div_left _ _ hvp, Nat.add_mul_mod_self_left, val_cons, Int.toNat_natCast, Nat.pow_succ]
    rw [Nat.mul_add, Nat.mul_assoc (18446744073709551616 ^ m), Nat.add_assoc]
theorem can_len_le {a b : Nat} (h : a ≤ b) : (can a).length ≤ (can b).length := (can_len_iff _ _).2 (Nat.lt_of_le_of_lt h (can_len_lt b))
theorem long_law {a b : List Int} {t : List Int × List Int} (h : longF (a, b) = some t) : ∃ k : Nat, long_b0 (long_L17 k) (long_L29 k) (long_L39 k) a b = some t := by
  obtain ⟨⟨ha, hb, hca, hcb, h2, hle⟩, rfl⟩ := gu_eq.1 h
  dsimp only at *
  have hla := ha.2
  have hlb := hb.2
  have hab : b.length ≤ a.length := by rw [hca, hcb]; exact can_len_le hle
  refine ⟨5 * (a.length + 1 - b.length) + 1, ?_⟩
  -- the top word
  have htop : b.getD (b.length - 1) 0 ≠ 0 := by
    have := can_top (b.length - 1) (val b) (by rw [← hcb]; omega)
    rwa [← hcb] at this
  have hWt := hb.1.get (b.length - 1)
  obtain ⟨c, hc, hcu⟩ := Wd.nat hWt
  have hc0 : c ≠ 0 := by rintro rfl; exact htop hc
  have e1 : subI .i64 (b.length : Int) 1 = ((b.length - 1 : Nat) : Int) := by rw [subI_i64 (by omega)]; omega
  have hlen : wLenF (c : Int) = some ((blen c : Nat) : Int) := by rw [wLenF, gu_pos (Wd.of hcu), Int.toNat_natCast]
  have hbl : blen c ≤ 64 := (blen_le_iff 64 c).2 hcu
  have hbl0 : 0 < blen c := blen_pos hc0
  obtain ⟨s, hs⟩ : ∃ s, s = 64 - blen c := ⟨_, rfl⟩
  have es : subI .i64 (64 : Int) ((blen c : Nat) : Int) = (s : Int) := by rw [subI_i64 (by omega)]; omega
  have ea : addI .i64 (a.length : Int) 1 = ((a.length + 1 : Nat) : Int) := inc (by omega)
  have ed : subI .i64 (a.length : Int) (b.length : Int) = ((a.length - b.length : Nat) : Int) := by rw [subI_i64 (by omega)]; omega
  have ed1 : addI .i64 ((a.length - b.length : Nat) : Int) 1 = ((a.length - b.length + 1 : Nat) : Int) := inc (by omega)
  -- the divisor, shifted
  obtain ⟨d, hd⟩ : ∃ d, b.length = d + 1 := ⟨b.length - 1, by omega⟩
  have hbv : val b = val (b.take d) + 18446744073709551616 ^ d * c := by
    have := val_take_succ (l := b) (i := d) (by omega)
    rw [show d + 1 = b.length from hd.symm, List.take_length, show d = b.length - 1 from by omega, hc, Int.toNat_natCast] at this
    rw [this, show b.length - 1 = d from by omega]
  have hlow := val_take_lt hb.1 d
  have hp : 0 < 2 ^ s := Nat.pow_pos (by omega)
  have hc63 : 9223372036854775808 ≤ c * 2 ^ s := by
    have h1 := blen_ge hc0
    have h2 : 2 ^ (blen c - 1) * 2 ^ s ≤ c * 2 ^ s := Nat.mul_le_mul_right _ h1
    rw [← Nat.pow_add, show blen c - 1 + s = 63 from by omega] at h2
    exact h2
  have hc64 : (c + 1) * 2 ^ s ≤ 18446744073709551616 := by
    have h1 := blen_lt c
    have h2 : (c + 1) * 2 ^ s ≤ 2 ^ blen c * 2 ^ s := Nat.mul_le_mul_right _ h1
    rw [← Nat.pow_add, show blen c + s = 64 from by omega] at h2
    exact h2
  have hV : val b * 2 ^ s < 18446744073709551616 ^ b.length := by
    have h1 : val b < 18446744073709551616 ^ d * (c + 1) := by rw [Nat.mul_succ]; omega
    have h2 : val b * 2 ^ s < 18446744073709551616 ^ d * (c + 1) * 2 ^ s := (Nat.mul_lt_mul_right hp).2 h1
    have h3 : 18446744073709551616 ^ d * ((c + 1) * 2 ^ s) ≤ 18446744073709551616 ^ d * 18446744073709551616 := Nat.mul_le_mul_left _ hc64
    rw [hd, Nat.pow_succ]
    rw [Nat.mul_assoc] at h2
    omega
  have hA : val a * 2 ^ s < 18446744073709551616 ^ (a.length + 1) := by
    have h1 := val_lt ha.1
    have h2 : (2 : Nat) ^ s ≤ 2 ^ 64 := Nat.pow_le_pow_right (by omega) (by omega)
    rw [show (2 : Nat) ^ 64 = 18446744073709551616 from rfl] at h2
    rw [Nat.pow_succ]
    exact Nat.lt_of_lt_of_le ((Nat.mul_lt_mul_right hp).2 h1) (Nat.mul_le_mul_left _ h2)
  have hs0 : (0 : Int) ≤ (s : Int) := by omega
  have hs1 : (s : Int) < 64 := by omega
  have hqb : qshlF (b, (s : Int), (b.length : Int)) = some (dig b.length (val b * 2 ^ s)) := by
    rw [qshlF, gu_pos ⟨hb, hs0, hs1, .inl rfl, by simpa only [Int.toNat_natCast] using hV⟩]
    simp only [Int.toNat_natCast]
  have hqa : qshlF (a, (s : Int), ((a.length + 1 : Nat) : Int)) = some (dig (a.length + 1) (val a * 2 ^ s)) := by
    rw [qshlF, gu_pos ⟨ha, hs0, hs1, .inr (by simp), by simpa only [Int.toNat_natCast] using hA⟩]
    simp only [Int.toNat_natCast]
  have hrb : rdI b ((b.length - 1 : Nat) : Int) = (c : Int) := by rw [rdI_nat, hc]
  rw [long_b0, e1, inR (by omega), cond_t, hrb, hlen, Option.bind_some, es, hqb, Option.bind_some, ea, hqa, Option.bind_some, ed, ed1, decide_eq_true (show (0 : Int) ≤ ((a.length - b.length + 1 : Nat) : Int) by omega), cond_t, cond_dec, if_pos (by omega), Int.toNat_natCast]
  -- the number, in its parts
  obtain ⟨u, hu⟩ : ∃ u, dig (a.length + 1) (val a * 2 ^ s) = u := ⟨_, rfl⟩
  have huW : W64 u := by rw [← hu]; exact dig_ok _ _
  have hul : u.length = a.length + 1 := by rw [← hu, dig_len]
  have huv : val u = val a * 2 ^ s := by rw [← hu, val_dig _ _ hA]
  have hm : (u.take (a.length - b.length + 1)).length = a.length - b.length + 1 := by rw [List.length_take]; omega
  have hparts := val_append (u.take (a.length - b.length + 1)) (u.drop (a.length - b.length + 1))
  rw [List.take_append_drop, hm] at hparts
  have hvd : val (dig b.length (val b * 2 ^ s)) = val b * 2 ^ s := val_dig _ _ hV
  have htopv : 9223372036854775808 ≤ (dig b.length (val b * 2 ^ s)).getD (b.length - 1) 0 := by
    have h1 := digit_val (b.length - 1) (dig_ok b.length (val b * 2 ^ s))
    rw [hvd] at h1
    have h2 := (dig_ok b.length (val b * 2 ^ s)).get (b.length - 1)
    have h3 : 9223372036854775808 ≤ val b * 2 ^ s / 18446744073709551616 ^ (b.length - 1) := by
      rw [Nat.le_div_iff_mul_le (Nat.pow_pos (by omega)), show b.length - 1 = d from by omega, Nat.mul_comm]
      have h4 : 18446744073709551616 ^ d * 9223372036854775808 ≤ 18446744073709551616 ^ d * (c * 2 ^ s) := Nat.mul_le_mul_left _ hc63
      have h5 : 18446744073709551616 ^ d * c * 2 ^ s ≤ val b * 2 ^ s := Nat.mul_le_mul_right _ (by omega)
      rw [Nat.mul_assoc] at h5
      omega
    have h4 : val b * 2 ^ s / 18446744073709551616 ^ (b.length - 1) < 18446744073709551616 := by
      rw [Nat.div_lt_iff_lt_mul (Nat.pow_pos (by omega)), Nat.mul_comm 18446744073709551616, ← Nat.pow_succ, show (b.length - 1).succ = b.length from by omega]
      exact hV
    rw [Nat.mod_eq_of_lt h4] at h1
    omega
  have hwlt : val (u.drop (a.length - b.length + 1)) < val b * 2 ^ s := by
    rcases Nat.lt_or_ge (val (u.drop (a.length - b.length + 1))) (val b * 2 ^ s) with h | h
    · exact h
    · exfalso
      have h1 := val_lt ha.1
      have h2 : 18446744073709551616 ^ (a.length - b.length + 1) * (val b * 2 ^ s) ≤ val a * 2 ^ s := by
        have := Nat.mul_le_mul_left (18446744073709551616 ^ (a.length - b.length + 1)) h
        omega
      rw [← Nat.mul_assoc] at h2
      have h3 := Nat.le_of_mul_le_mul_right h2 hp
      have h4 : 18446744073709551616 ^ (a.length - b.length + 1) * 18446744073709551616 ^ d ≤ 18446744073709551616 ^ (a.length - b.length + 1) * val b := by
        refine Nat.mul_le_mul_left _ ?_
        have : 18446744073709551616 ^ d * 1 ≤ 18446744073709551616 ^ d * c := Nat.mul_le_mul_left _ (by omega)
        omega
      rw [← Nat.pow_add, show a.length - b.length + 1 + d = a.length from by omega] at h4
      omega
  have := long_all h2 (by omega) (dig_ok b.length (val b * 2 ^ s)) (dig_len _ _) htopv (s := s) (by omega) (a.length - b.length + 1) (u.take (a.length - b.length + 1)) (u.drop (a.length - b.length + 1)) [] [] (5 * (a.length + 1 - b.length) + 1) hm (by rw [List.length_drop]; omega) (huW.take _) (huW.drop _) W64.nil (by rw [hvd]; exact hwlt) (by simp; omega) (by simp; omega) (by omega)
  rw [List.append_nil, List.append_nil, List.take_append_drop, hvd, ← hparts, huv, val_nil, Nat.mul_zero, Nat.mul_div_mul_right _ _ hp, Nat.add_zero, Nat.mul_mod_mul_right, Nat.mul_div_cancel _ hp, show (((a.length - b.length + 1 : Nat) : Int)) - 1 = ((a.length - b.length : Nat) : Int) from by omega] at this
  rw [hu]
  exact this
theorem longF_ok {a b : Nat} (ha : V (can a)) (hb : V (can b)) (h2 : 2 ≤ (can b).length) (hle : b ≤ a) : longF (can a, can b) = some (can (a / b), can (a % b)) := by
  rw [longF, gu_pos ⟨ha, hb, by rw [val_can], by rw [val_can], h2, by rw [val_can, val_can]; exact hle⟩]
  simp only [val_can]
theorem V_val {x : List Int} (h : V x) : V (can (val x)) := ⟨can_ok _, by rw [len_can_val h.1]; have := sz_le x; have := h.2; omega⟩
theorem nCmpF_U {x y : List Int} (hx : U x) (hy : U y) : nCmpF (x, y) = some (sgn (val x) (val y)) := gu_pos ⟨hx, hy⟩
theorem DivMod_law {a b : List Int} {t : List Int × List Int × Int} (h : DivModF (a, b) = some t) : ∃ k : Nat, DivMod_b0 a b = some t := by
  obtain ⟨⟨ha, hb⟩, rfl⟩ := gu_eq.1 h
  dsimp only at *
  have hVa := V_val ha
  have hVb := V_val hb
  refine ⟨0, ?_⟩
  rw [DivMod_b0, nNormF_U ha.U, Option.bind_some, nNormF_U hb.U, Option.bind_some, cond_dec]
  obtain ⟨A, hA⟩ : ∃ A, val a = A := ⟨_, rfl⟩
  obtain ⟨B, hB⟩ : ∃ B, val b = B := ⟨_, rfl⟩
  rw [hA] at hVa ⊢
  rw [hB] at hVb ⊢
  by_cases c0 : B = 0
  · rw [if_pos c0, c0, can_zero, if_pos (by simp)]
  · have hne : (can B).length ≠ 0 := fun h => c0 (can_nil.1 (List.length_eq_zero_iff.1 h))
    rw [if_neg c0, if_neg (by omega), nCmpF_U hVa.U hVb.U, Option.bind_some, val_can, val_can, cond_dec]
    by_cases c1 : A < B
    · rw [sgn, if_pos c1, if_pos (by omega), Nat.div_eq_of_lt c1, Nat.mod_eq_of_lt c1, can_zero]
    · have hs : ¬ sgn A B < 0 := by
        rw [sgn, if_neg c1]
        split <;> omega
      rw [if_neg hs, cond_dec]
      by_cases c2 : (can B).length = 1
      · have hB1 : B < 18446744073709551616 := by
          have := can_len_lt B
          rw [c2] at this
          omega
        have hrd : rdI (can B) 0 = (B : Int) := by
          rw [show (0 : Int) = ((0 : Nat) : Int) from rfl, rdI_nat, can_pos c0, Nat.mod_eq_of_lt hB1]
          rfl
        have hsm : qSmallF (can A, (B : Int)) = some (can (A / B), ((A % B : Nat) : Int), 0) := by
          rw [qSmallF, gu_pos ⟨hVa, Wd.of hB1⟩]
          dsimp only
          rw [if_neg (by omega), val_can, Int.toNat_natCast]
        have hfr : nFromF ((A % B : Nat) : Int) = some (can (A % B)) := by
          rw [nFromF, gu_pos (Wd.of (by have := Nat.mod_lt A (show 0 < B by omega); omega)), Int.toNat_natCast]
        have hin : inRange (0 : Int) (can B).length = true := inR (i := 0) (by omega)
        rw [if_pos (by omega), hin, cond_t, hrd, hsm, Option.bind_some]
        dsimp only
        rw [hfr, Option.bind_some]
      · rw [if_neg (by omega), longF_ok hVa hVb (by omega) (by omega), Option.bind_some]
theorem V_le {a b : Nat} (h : a ≤ b) (hb : V (can b)) : V (can a) := ⟨can_ok _, Nat.le_trans (can_len_le h) hb.2⟩
theorem L.V {x : List Int} (h : L x) : V x := ⟨h.1, by have := h.2; omega⟩
theorem DivModF_ok {x y : List Int} (hx : V x) (hy : V y) : DivModF (x, y) = some (if val y = 0 then ([], [], 30) else (can (val x / val y), can (val x % val y), 0)) := gu_pos ⟨hx, hy⟩
theorem long_ok : CtrOk Go.Proofs.Tryz.prog 120 (mkF [.sl (.int .u64), .sl (.int .u64)] [.sl (.int .u64), .sl (.int .u64)] longF) := by
  refine mkF_ok (c := bodyOf Go.Proofs.Tryz.f120) (tab := S.tab) (cts := [(113, mkF [.int .u64] [.int .i64] wLenF), (122, mkN [.sl (.int .u64), .int .i64, .int .i64] 22 .u64 qshlF), (117, mkF [.int .u64, .int .u64, .int .u64] [.int .u64, .int .u64] wAddF), (121, mkF [.int .u64, .int .u64, .int .u64] [.int .u64, .int .u64, .int .i64] wDivF), (116, mkF [.int .u64, .int .u64] [.int .u64, .int .u64] wMulF), (110, mkF [.int .u64, .int .u64, .int .u64, .int .u64] [.int .i64] wCmpF), (123, mkM [.sl (.int .u64), .int .u64] [.bool] 22 .u64 takeF), (124, mkM [.sl (.int .u64)] [] 22 .u64 giveF), (98, mkZ [.sl (.int .u64)] .u64 nNormF), (125, mkZ [.sl (.int .u64), .int .i64] .u64 qshrF)]) (res := [4, 5]) tab_ok hm ⟨wLen_ok, qshl_ok, wAdd_ok, wDiv_ok, wMul_ok, wCmp_ok, take_ok, give_ok, nNormV_ok, qshrV_ok, trivial⟩ Go.Proofs.Tryz.func120 (by kernel_rfl) (by kernel_rfl) (by kernel_rfl) (by kernel_rfl) (by kernel_rfl) ?_
  rintro ⟨a, b⟩ t h
  obtain ⟨k, hk⟩ := long_law h
  exact ⟨long_h, 3000, k, (long_ev k a b).trans hk⟩
theorem DivMod_ok : CtrOk Go.Proofs.Tryz.prog 115 (mkF [.sl (.int .u64), .sl (.int .u64)] [.sl (.int .u64), .sl (.int .u64), .int .i64] DivModF) := by
  refine mkF_ok (c := bodyOf Go.Proofs.Tryz.f115) (tab := S.tab) (cts := [(98, mkF [.sl (.int .u64)] [.sl (.int .u64)] nNormF), (91, mkF [.sl (.int .u64), .sl (.int .u64)] [.int .i64] nCmpF), (119, mkF [.sl (.int .u64), .int .u64] [.sl (.int .u64), .int .u64, .int .i64] qSmallF), (76, mkF [.int .u64] [.sl (.int .u64)] nFromF), (120, mkF [.sl (.int .u64), .sl (.int .u64)] [.sl (.int .u64), .sl (.int .u64)] longF)]) (res := [4, 5, 6]) tab_ok hm ⟨nNormZ_ok, nCmp_ok, qSmall_ok, nFrom_ok, long_ok, trivial⟩ Go.Proofs.Tryz.func115 (by kernel_rfl) (by kernel_rfl) (by kernel_rfl) (by kernel_rfl) (by kernel_rfl) ?_
  rintro ⟨a, b⟩ t h
  obtain ⟨k, hk⟩ := DivMod_law h
  exact ⟨DivMod_h, 3000, k, (DivMod_ev k a b).trans hk⟩
end Go.RX.S
