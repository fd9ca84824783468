/- quot: a piece of a row less a multiple, and back. -/
import Derived.Test.YtciapojlnhiggaaGreatZWf
set_option linter.unusedVariables false
set_option linter.unusedSimpArgs false
namespace Go.RX.S
open Go Go.RX
theorem wSubF_nat {a b c : Nat} (ha : a < 18446744073709551616) (hb : b < 18446744073709551616) (hc : c ≤ 1) : ∃ r c' : Nat, wSubF ((a : Int), (b : Int), (c : Int)) = some ((r : Int), (c' : Int)) ∧ r < 18446744073709551616 ∧ c' ≤ 1 ∧ r + b + c = a + 18446744073709551616 * c' := by
  rw [wSubF, gu_pos ⟨Wd.of ha, Wd.of hb, Wd.of (by omega)⟩]
  dsimp only
  rw [show (c : Int) % 2 = c from by omega]
  by_cases h : a < b + c
  · refine ⟨18446744073709551616 + a - b - c, 1, ?_, by omega, by omega, by omega⟩
    rw [if_pos (by omega)]
    congr 2
    omega
  · refine ⟨a - b - c, 0, ?_, by omega, by omega, by omega⟩
    rw [if_neg (by omega)]
    congr 2
    omega
theorem step_take {w by_ above hi lo lo' cy r borrow b' x Rv Yv Xv P β : Nat} (e1 : 18446744073709551616 * hi + lo = w * by_) (e2 : 18446744073709551616 * cy + lo' = lo + above) (e3 : r + lo' + borrow = x + 18446744073709551616 * b')
    (e4 : Rv + Yv * by_ + (hi + cy) + b' = Xv + P * β) : r + 18446744073709551616 * Rv + (w + 18446744073709551616 * Yv) * by_ + above + borrow = x + 18446744073709551616 * Xv + P * 18446744073709551616 * β := by
  have h1 : (w + 18446744073709551616 * Yv) * by_ = w * by_ + 18446744073709551616 * (Yv * by_) := by rw [Nat.add_mul, Nat.mul_assoc]
  have h2 : P * 18446744073709551616 * β = 18446744073709551616 * (P * β) := by rw [Nat.mul_comm P, Nat.mul_assoc]
  rw [h1, h2]
  omega
theorem take_loop {v : List Int} {q : Nat} (hq : q < 18446744073709551616) (hvl : v.length ≤ 17592186044416) (pre post : List Int) (n : Nat) (hn : n = v.length + 1) : ∀ (ys xs vpre done : List Int) (above borrow k : Nat), v = vpre ++ ys → vpre.length = done.length → W64 ys → W64 xs → xs.length = ys.length + 1 → above < 18446744073709551616 → borrow ≤ 1 → ys.length + 1 ≤ k →
    ∃ (R : List Int) (β : Nat), take_L6 k pre.length n v (q : Int) (above : Int) (borrow : Int) v (v.length : Int) (done.length : Int) (pre ++ done ++ xs ++ post) = some (pre ++ done ++ R ++ post, decide ((β : Int) = 1)) ∧ W64 R ∧ R.length = xs.length ∧ β ≤ 1 ∧ val R + val ys * q + above + borrow = val xs + 18446744073709551616 ^ xs.length * β
  | ys, xs, vpre, done, above, borrow, 0, _, _, _, _, _, _, _, hk => by omega
  | [], xs, vpre, done, above, borrow, k + 1, hv, hp, hy, hx, hl, ha, hb, hk => by
    obtain ⟨x, rfl⟩ : ∃ x, xs = [x] := by
      match xs, hl with
      | [x], _ => exact ⟨x, rfl⟩
    have hvd : v.length = done.length := by rw [hv, List.append_nil, hp]
    obtain ⟨xn, rfl, hxn⟩ := Wd.nat (W64.cons.1 hx).1
    obtain ⟨r, c', hs, hr, hc', he⟩ := wSubF_nat hxn ha hb
    have e1 : pre ++ done ++ [(xn : Int)] ++ post = (pre ++ done) ++ (xn : Int) :: post := by simp
    have e2 : (pre ++ done).length = pre.length + done.length := by simp
    refine ⟨[(r : Int)], c', ?_, by rw [W64.cons]; exact ⟨⟨by omega, by omega⟩, W64.nil⟩, rfl, hc', ?_⟩
    · have hin : inRange (done.length : Int) n = true := inR (by omega)
      rw [take_L6, take_b6, hvd, cond_dec, if_neg (by omega), hin, cond_t, Int.toNat_natCast, e1, rdN_mid e2, hs, Option.bind_some, cond_t, wrI_mid e2]
      simp
    · rw [val_one, val_one, val_nil, List.length_singleton, Nat.pow_one, Int.toNat_natCast, Int.toNat_natCast]
      omega
  | y :: ys, xs, vpre, done, above, borrow, k + 1, hv, hp, hy, hx, hl, ha, hb, hk => by
    obtain ⟨x, xs, rfl⟩ : ∃ x xs', xs = x :: xs' := by
      match xs, hl with
      | x :: xs', _ => exact ⟨x, xs', rfl⟩
    rw [W64.cons] at hy hx
    simp only [List.length_cons] at hl hk
    obtain ⟨yn, rfl, hyn⟩ := Wd.nat hy.1
    obtain ⟨xn, rfl, hxn⟩ := Wd.nat hx.1
    have hvd : v.length = done.length + ys.length + 1 := by rw [hv, List.length_append, List.length_cons, hp]; omega
    have hrd : rdI v (done.length : Int) = (yn : Int) := by rw [hv]; exact rdI_mid hp
    have hp1 : yn * q ≤ 18446744073709551615 * 18446744073709551615 := Nat.mul_le_mul (by omega) (by omega)
    have hhi : yn * q / 18446744073709551616 ≤ 18446744073709551614 := by omega
    have hlo : yn * q % 18446744073709551616 < 18446744073709551616 := Nat.mod_lt _ (by omega)
    have hdm := Nat.div_add_mod (yn * q) 18446744073709551616
    have hdm2 := Nat.div_add_mod (yn * q % 18446744073709551616 + above) 18446744073709551616
    have hlo' : (yn * q % 18446744073709551616 + above) % 18446744073709551616 < 18446744073709551616 := Nat.mod_lt _ (by omega)
    have hcy : (yn * q % 18446744073709551616 + above) / 18446744073709551616 ≤ 1 := by omega
    obtain ⟨r, c', hs, hr, hc', he⟩ := wSubF_nat hxn hlo' hb
    have hadd : addI .u64 ((yn * q / 18446744073709551616 : Nat) : Int) (((yn * q % 18446744073709551616 + above) / 18446744073709551616 : Nat) : Int) = ((yn * q / 18446744073709551616 + (yn * q % 18446744073709551616 + above) / 18446744073709551616 : Nat) : Int) := by
      rw [addI_u64]
      omega
    have e1 : pre ++ done ++ (xn : Int) :: xs ++ post = (pre ++ done) ++ (xn : Int) :: (xs ++ post) := by simp
    have e2 : (pre ++ done).length = pre.length + done.length := by simp
    have e3 : (pre ++ done) ++ (r : Int) :: (xs ++ post) = pre ++ (done ++ [(r : Int)]) ++ xs ++ post := by simp
    obtain ⟨R, β, h1, h2, h3, h4, h5⟩ := take_loop hq hvl pre post n hn ys xs (vpre ++ [(yn : Int)]) (done ++ [(r : Int)]) _ c' k (by rw [hv]; simp) (by rw [snoc_len, snoc_len, hp]) hy.2 hx.2 (by omega) (show yn * q / 18446744073709551616 + (yn * q % 18446744073709551616 + above) / 18446744073709551616 < 18446744073709551616 by omega) hc' (by omega)
    refine ⟨(r : Int) :: R, β, ?_, by rw [W64.cons]; exact ⟨⟨by omega, by omega⟩, h2⟩, by simp [h3], h4, ?_⟩
    · have hin : inRange (done.length : Int) n = true := inR (by omega)
      rw [take_L6, take_b6, cond_dec, if_pos (by omega), inR (by omega), cond_t, hrd, wMulF_ok hyn hq, Option.bind_some]
      dsimp only
      rw [wAddF_nat hlo ha, Option.bind_some, hin, cond_t, Int.toNat_natCast, e1, rdN_mid e2, hs, Option.bind_some, cond_t, hadd, inc (by omega), wrI_mid e2, e3, ← snoc_len done (r : Int), h1]
      simp
    · rw [val_cons, val_cons, val_cons, List.length_cons, Nat.pow_succ, Int.toNat_natCast, Int.toNat_natCast, Int.toNat_natCast]
      exact step_take hdm hdm2 he h5
theorem take_law {l a : List Int} {b : Int} {l' : List Int} {t : Bool} (h : takeF (l, a, b) = some (l', t)) : l'.length = l.length ∧ ∀ pre post : List Int, ∃ k : Nat, take_b0 (take_L6 k) pre.length l.length (pre ++ l ++ post) a b = some (pre ++ l' ++ post, t) := by
  obtain ⟨⟨hl, ha, hb, hlen⟩, he⟩ := gu_eq.1 h
  dsimp only at *
  simp only [Prod.mk.injEq] at he
  obtain ⟨rfl, rfl⟩ := he
  refine ⟨dig_len _ _, fun pre post => ⟨a.length + 1, ?_⟩⟩
  obtain ⟨q, rfl, hq⟩ := hb.nat
  have hal := ha.2
  obtain ⟨R, β, h1, h2, h3, h4, h5⟩ := take_loop hq hal pre post l.length hlen a l [] [] 0 0 (a.length + 1) rfl rfl ha.1 hl hlen (by omega) (by omega) (by omega)
  rw [List.append_nil] at h1
  rw [take_b0]
  refine h1.trans ?_
  rw [Int.toNat_natCast]
  have hR := val_lt h2
  rw [h3] at hR
  have hX := val_lt hl
  have hdig := dig_val h2
  rw [h3] at hdig
  have hY : val a * q ≤ 18446744073709551616 ^ l.length := by
    have := val_lt ha.1
    rw [hlen, Nat.pow_succ]
    exact Nat.mul_le_mul (by omega) (by omega)
  have hβ : (β : Int) = 1 ↔ val l < val a * q := by
    rcases Nat.le_one_iff_eq_zero_or_eq_one.1 h4 with e | e
    · rw [e, Nat.mul_zero] at h5
      omega
    · rw [e, Nat.mul_one] at h5
      omega
  have hv : (18446744073709551616 ^ l.length + val l - val a * q) % 18446744073709551616 ^ l.length = val R := by
    rcases Nat.le_one_iff_eq_zero_or_eq_one.1 h4 with e | e
    · rw [e, Nat.mul_zero] at h5
      rw [show 18446744073709551616 ^ l.length + val l - val a * q = 18446744073709551616 ^ l.length + val R from by omega, Nat.add_mod_left, Nat.mod_eq_of_lt hR]
    · rw [e, Nat.mul_one] at h5
      rw [show 18446744073709551616 ^ l.length + val l - val a * q = val R from by omega, Nat.mod_eq_of_lt hR]
  rw [hv, hdig]
  simp only [List.nil_append, hβ]
theorem give_loop {v : List Int} (hvl : v.length ≤ 17592186044416) (pre post : List Int) (n : Nat) (hn : n = v.length + 1) : ∀ (ys xs vpre done : List Int) (c k : Nat), v = vpre ++ ys → vpre.length = done.length → W64 ys → W64 xs → xs.length = ys.length + 1 → c ≤ 1 → ys.length + 1 ≤ k →
    ∃ (R : List Int) (γ : Nat), give_L4 k pre.length n v (c : Int) v (v.length : Int) (done.length : Int) (pre ++ done ++ xs ++ post) = some (pre ++ done ++ R ++ post, ()) ∧ W64 R ∧ R.length = xs.length ∧ val R + 18446744073709551616 ^ xs.length * γ = val xs + val ys + c
  | ys, xs, vpre, done, c, 0, _, _, _, _, _, _, hk => by omega
  | [], xs, vpre, done, c, k + 1, hv, hp, hy, hx, hl, hc, hk => by
    obtain ⟨x, rfl⟩ : ∃ x, xs = [x] := by
      match xs, hl with
      | [x], _ => exact ⟨x, rfl⟩
    have hvd : v.length = done.length := by rw [hv, List.append_nil, hp]
    obtain ⟨xn, rfl, hxn⟩ := Wd.nat (W64.cons.1 hx).1
    have e1 : pre ++ done ++ [(xn : Int)] ++ post = (pre ++ done) ++ (xn : Int) :: post := by simp
    have e2 : (pre ++ done).length = pre.length + done.length := by simp
    have e4 : addI .u64 (xn : Int) (c : Int) = (((xn + c) % 18446744073709551616 : Nat) : Int) := by rw [addI_u64]; omega
    refine ⟨[(((xn + c) % 18446744073709551616 : Nat) : Int)], (xn + c) / 18446744073709551616, ?_, by rw [W64.cons]; exact ⟨⟨by omega, by omega⟩, W64.nil⟩, rfl, ?_⟩
    · have hin : inRange (done.length : Int) n = true := inR (by omega)
      rw [give_L4, give_b4, hvd, cond_dec, if_neg (by omega), hin, cond_t, cond_t, Int.toNat_natCast, e1, rdN_mid e2, e4, wrI_mid e2]
      simp
    · rw [val_one, val_one, val_nil, List.length_singleton, Nat.pow_one, Int.toNat_natCast, Int.toNat_natCast]
      omega
  | y :: ys, xs, vpre, done, c, k + 1, hv, hp, hy, hx, hl, hc, hk => by
    obtain ⟨x, xs, rfl⟩ : ∃ x xs', xs = x :: xs' := by
      match xs, hl with
      | x :: xs', _ => exact ⟨x, xs', rfl⟩
    rw [W64.cons] at hy hx
    simp only [List.length_cons] at hl hk
    obtain ⟨yn, rfl, hyn⟩ := Wd.nat hy.1
    obtain ⟨xn, rfl, hxn⟩ := Wd.nat hx.1
    have hvd : v.length = done.length + ys.length + 1 := by rw [hv, List.length_append, List.length_cons, hp]; omega
    have hrd : rdI v (done.length : Int) = (yn : Int) := by rw [hv]; exact rdI_mid hp
    have e1 : pre ++ done ++ (xn : Int) :: xs ++ post = (pre ++ done) ++ (xn : Int) :: (xs ++ post) := by simp
    have e2 : (pre ++ done).length = pre.length + done.length := by simp
    have e5 : ((xn : Int) + (yn : Int) + (c : Int)) / 18446744073709551616 = (((xn + yn + c) / 18446744073709551616 : Nat) : Int) := by omega
    have e6 : ((xn : Int) + (yn : Int) + (c : Int)) % 18446744073709551616 = (((xn + yn + c) % 18446744073709551616 : Nat) : Int) := by omega
    have hdm := Nat.div_add_mod (xn + yn + c) 18446744073709551616
    have hq1 : (xn + yn + c) / 18446744073709551616 ≤ 1 := by omega
    have hr1 : (xn + yn + c) % 18446744073709551616 < 18446744073709551616 := Nat.mod_lt _ (by omega)
    have hadd := wAddF_some (a := (xn : Int)) (b := (yn : Int)) (c := (c : Int)) (Wd.of hxn) (Wd.of hyn) (by omega) (by omega)
    rw [e5, e6] at hadd
    obtain ⟨r, hrr⟩ : ∃ r, (xn + yn + c) % 18446744073709551616 = r := ⟨_, rfl⟩
    obtain ⟨q, hqq⟩ : ∃ q, (xn + yn + c) / 18446744073709551616 = q := ⟨_, rfl⟩
    rw [hrr, hqq] at hadd hdm
    rw [hrr] at hr1
    rw [hqq] at hq1
    have e3 : (pre ++ done) ++ (r : Int) :: (xs ++ post) = pre ++ (done ++ [(r : Int)]) ++ xs ++ post := by simp
    obtain ⟨R, γ, h1, h2, h3, h5⟩ := give_loop hvl pre post n hn ys xs (vpre ++ [(yn : Int)]) (done ++ [(r : Int)]) q k (by rw [hv]; simp) (by rw [snoc_len, snoc_len, hp]) hy.2 hx.2 (by omega) hq1 (by omega)
    refine ⟨(r : Int) :: R, γ, ?_, by rw [W64.cons]; exact ⟨⟨by omega, by omega⟩, h2⟩, by simp [h3], ?_⟩
    · have hin : inRange (done.length : Int) n = true := inR (by omega)
      rw [give_L4, give_b4, cond_dec, if_pos (by omega), inR (by omega), cond_t, hin, cond_t, hrd, Int.toNat_natCast, e1, rdN_mid e2, hadd, Option.bind_some, cond_t, inc (by omega), wrI_mid e2, e3, ← snoc_len done (r : Int), h1]
      simp
    · rw [val_cons, val_cons, val_cons, List.length_cons, Nat.pow_succ, Int.toNat_natCast, Int.toNat_natCast, Int.toNat_natCast]
      have h6 : 18446744073709551616 ^ xs.length * 18446744073709551616 * γ = 18446744073709551616 * (18446744073709551616 ^ xs.length * γ) := by rw [Nat.mul_comm (18446744073709551616 ^ xs.length), Nat.mul_assoc]
      rw [h6]
      omega
theorem give_law {l a : List Int} {l' : List Int} {t : Unit} (h : giveF (l, a) = some (l', t)) : l'.length = l.length ∧ ∀ pre post : List Int, ∃ k : Nat, give_b0 (give_L4 k) pre.length l.length (pre ++ l ++ post) a = some (pre ++ l' ++ post, t) := by
  obtain ⟨⟨hl, ha, hlen⟩, he⟩ := gu_eq.1 h
  dsimp only at *
  simp only [Prod.mk.injEq] at he
  obtain ⟨rfl, _⟩ := he
  refine ⟨dig_len _ _, fun pre post => ⟨a.length + 1, ?_⟩⟩
  have hal := ha.2
  obtain ⟨R, γ, h1, h2, h3, h5⟩ := give_loop hal pre post l.length hlen a l [] [] 0 (a.length + 1) rfl rfl ha.1 hl hlen (by omega) (by omega)
  rw [List.append_nil] at h1
  rw [give_b0]
  refine h1.trans ?_
  have hR := val_lt h2
  rw [h3] at hR
  have hdig := dig_val h2
  rw [h3] at hdig
  rw [← show val R + 18446744073709551616 ^ l.length * γ = val l + val a from by omega, Nat.add_mul_mod_self_left, Nat.mod_eq_of_lt hR, hdig]
theorem take_ok : CtrOk Go.Proofs.Tryz.prog 123 (mkM [.sl (.int .u64), .int .u64] [.bool] 22 .u64 takeF) := by
  refine mkM_ok (c := bodyOf Go.Proofs.Tryz.f123) (tab := S.tab) (cts := [(116, mkF [.int .u64, .int .u64] [.int .u64, .int .u64] wMulF), (117, mkF [.int .u64, .int .u64, .int .u64] [.int .u64, .int .u64] wAddF), (111, mkF [.int .u64, .int .u64, .int .u64] [.int .u64, .int .u64] wSubF)]) (res := [6]) rfl tab_ok hm ⟨wMul_ok, wAdd_ok, wSub_ok, trivial⟩ Go.Proofs.Tryz.func123 (by kernel_rfl) (by kernel_rfl) (by kernel_rfl) (by kernel_rfl) (by kernel_rfl) ?_
  rintro l ⟨a, b⟩ l' t h
  refine ⟨(take_law h).1, fun pre post => ?_⟩
  obtain ⟨k, hk⟩ := (take_law h).2 pre post
  exact ⟨take_h, 3000, k, (take_ev k _ _ _ a b).trans hk⟩
theorem give_ok : CtrOk Go.Proofs.Tryz.prog 124 (mkM [.sl (.int .u64)] [] 22 .u64 giveF) := by
  refine mkM_ok (c := bodyOf Go.Proofs.Tryz.f124) (tab := S.tab) (cts := [(117, mkF [.int .u64, .int .u64, .int .u64] [.int .u64, .int .u64] wAddF)]) (res := []) rfl tab_ok hm ⟨wAdd_ok, trivial⟩ Go.Proofs.Tryz.func124 (by kernel_rfl) (by kernel_rfl) (by kernel_rfl) (by kernel_rfl) (by kernel_rfl) ?_
  rintro l a l' t h
  refine ⟨(give_law h).1, fun pre post => ?_⟩
  obtain ⟨k, hk⟩ := (give_law h).2 pre post
  exact ⟨give_h, 3000, k, (give_ev k _ _ _ a).trans hk⟩
end Go.RX.S
