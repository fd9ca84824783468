/- The laws' own helpers; NatBack. -/
import Derived.Test.YtandibmpaamfbaaUc
import Derived.Test.YtandibmpaamfbaaTb
set_option linter.unusedVariables false
set_option linter.unusedSimpArgs false
namespace Go.RX.S
open Go Go.RX

theorem cut_loop (x : List Int) : ∀ (k i : Nat), i ≤ 60 → i ≤ x.length → 60 - i + 1 ≤ k → cut_L6 k x (i : Int) (x.take i) = some (x.take 60)
  | 0, i, _, _, hk => by omega
  | k + 1, i, h1, h2, hk => by
    rw [cut_L6, cut_b6, cond_dec, cond_dec]
    by_cases c1 : i < x.length
    · rw [if_pos (by omega)]
      by_cases c2 : i < 60
      · rw [if_pos (by omega), inR c1, cond_t, rdI_nat, ← take_snoc c1, inc (by omega), cond_dec, if_pos (by rw [List.length_take]; omega)]
        exact cut_loop x k (i + 1) (by omega) (by omega) (by omega)
      · rw [if_neg (by omega), show i = 60 from by omega]
    · rw [if_neg (by omega), List.take_of_length_le (by omega), List.take_of_length_le (by omega)]
theorem cut_law {a t : List Int} (h : cutF a = some t) : ∃ k : Nat, cut_b0 (cut_L6 k) a = some t := by
  obtain ⟨_, rfl⟩ := gu_eq.1 h
  exact ⟨61, cut_loop a 61 0 (by omega) (by omega) (by omega)⟩

theorem same_loop : ∀ (s s' p p' : List Int) (k : Nat), p.length = p'.length → s.length = s'.length → p.length + s.length ≤ 17609365913600 → s.length + 1 ≤ k → same_L8 k (p ++ s) (p' ++ s') (p.length : Int) = some (@decide (s = s') (Classical.propDecidable _))
  | s, s', p, p', 0, _, _, _, hk => by omega
  | [], [], p, p', k + 1, hp, hs, hl, hk => by
    rw [same_L8, same_b8, cond_dec, if_neg (by simp)]
    simp
  | x :: s, y :: s', p, p', k + 1, hp, hs, hl, hk => by
    simp only [List.length_cons] at hs hl hk
    have h1 : p.length < (p ++ x :: s).length := by simp
    have h2 : p.length < (p' ++ y :: s').length := by simp [hp]
    rw [same_L8, same_b8, cond_dec, if_pos (by omega), inR h1, inR h2, cond_t, cond_t, rdI_mid rfl, rdI_mid hp.symm, cond_ndec, inc (by omega)]
    by_cases c : x = y
    · subst c
      rw [if_pos rfl, snoc_app p, snoc_app p', ← snoc_len p x, same_loop s s' (p ++ [x]) (p' ++ [x]) k (by simp [hp]) (by omega) (by rw [snoc_len]; omega) (by omega)]
      simp
    · rw [if_neg c]
      simp [c]
  | [], _ :: _, p, p', k + 1, hp, hs, hl, hk => by simp at hs
  | _ :: _, [], p, p', k + 1, hp, hs, hl, hk => by simp at hs
theorem same_law {a b : List Int} {t : Bool} (h : sameF (a, b) = some t) : ∃ k : Nat, same_b0 (same_L8 k) a b = some t := by
  obtain ⟨h1, rfl⟩ := gu_eq.1 h
  dsimp only at *
  refine ⟨a.length + 1, ?_⟩
  rw [same_b0, cond_ndec]
  by_cases c : a.length = b.length
  · rw [if_pos (by omega)]
    exact same_loop a b [] [] (a.length + 1) rfl c (by simpa using h1) (Nat.le_refl _)
  · rw [if_neg (by omega)]
    have : a ≠ b := fun e => c (by rw [e])
    simp [this]

theorem nAddF_V {x y : List Int} (hx : V x) (hy : V y) : nAddF (x, y) = some (bnd (val x + val y)) := gu_pos ⟨hx, hy⟩
theorem add_law {a b : List Int} {t : List Int × Bool} (h : addF (a, b) = some t) : ∃ k : Nat, add_b0 a b = some t := by
  obtain ⟨⟨ha, hb⟩, rfl⟩ := gu_eq.1 h
  refine ⟨0, ?_⟩
  rw [add_b0, nAddF_V ha hb, Option.bind_some]
  unfold bnd okp
  dsimp only
  split <;> rfl

theorem normal_law {a : List Int} {t : Bool} (h : normalF a = some t) : ∃ k : Nat, normal_b0 a = some t := by
  obtain ⟨h1, rfl⟩ := gu_eq.1 h
  refine ⟨0, ?_⟩
  rw [normal_b0, cond_dec]
  by_cases c : a = []
  · subst c
    simp
  · have hl : 0 < a.length := List.length_pos_iff.2 c
    rw [if_neg (by omega), dec (by omega) hl, inR (by omega), cond_t, rdI_nat]
    simp [c]

theorem sameF_ok {a b : List Int} (h : a.length ≤ 17609365913600) : sameF (a, b) = some (@decide (a = b) (Classical.propDecidable _)) := gu_pos h
theorem sameF_can {u v : Nat} (h : u < Lim) : sameF (can u, can v) = some (decide (u = v)) := by
  rw [sameF_ok (U_can h).2]
  congr 1
  by_cases c : u = v
  · simp [c]
  · have : can u ≠ can v := fun e => c (can_inj.1 e)
    simp [c, this]
theorem V_lit {l : List Int} (h : l.all (fun x => decide (0 ≤ x ∧ x < 18446744073709551616)) = true) (hl : l.length ≤ 17592186044416) : V l :=
  ⟨fun x hx => of_decide_eq_true (List.all_eq_true.1 h x hx), hl⟩
theorem small_Lim {v : Nat} (h : v < 340282366920938463463374607431768211456) : v < Lim := lt_Lim (n := 2) (by omega) (by rw [lw_eq]; omega)
theorem bnd_ok {v : Nat} (h : v < Lim) : bnd v = (can v, 0) := if_pos h
theorem can_65 : can 18446744073709551616 = [0, 1] := by
  rw [can_pos (by omega), can_pos (by omega), show 18446744073709551616 / 18446744073709551616 / 18446744073709551616 = 0 from rfl, can_zero]
  rfl
theorem alive_law {t : Bool} (h : aliveF PUnit.unit = some t) : ∃ k : Nat, alive_b0 = some t := by
  obtain ⟨_, rfl⟩ := gu_eq.1 h
  refine ⟨0, ?_⟩
  rw [alive_b0, nAddF_V (V_lit (by decide) (by decide)) (V_lit (by decide) (by decide)), Option.bind_some]
  rw [show val [18446744073709551615] + val [1] = 18446744073709551616 from rfl, bnd_ok (small_Lim (by omega))]
  simp only [decide_true, cond_t, can_65]
  rw [sameF_ok (by simp), Option.bind_some]
  simp

theorem into_law {a b t : Int} (h : intoF (a, b) = some t) : ∃ k : Nat, into_b0 a b = some t := by
  obtain ⟨⟨h1, h2, h3, h4⟩, rfl⟩ := gu_eq.1 h
  dsimp only at *
  refine ⟨0, ?_⟩
  have hr := Int.tmod_lt_of_pos a h1
  rw [into_b0, cond_ndec, if_neg (by omega), cond_dec]
  unfold remI
  rcases Int.lt_or_le a 0 with c | c
  · obtain ⟨n, rfl⟩ : ∃ n : Nat, a = -(n : Int) := ⟨(-a).toNat, by omega⟩
    obtain ⟨m, rfl⟩ := Int.eq_ofNat_of_zero_le (Int.le_of_lt h1)
    rw [Int.neg_tmod]
    have e : (n : Int).tmod (m : Int) = ((n % m : Nat) : Int) := by rw [Int.tmod_eq_emod_of_nonneg (by omega)]; simp
    rw [e]
    have hm : n % m < m := Nat.mod_lt _ (by omega)
    have hdm := Nat.div_add_mod n m
    have key : (-(n : Int)) % (m : Int) = if n % m = 0 then 0 else ((m - n % m : Nat) : Int) := by
      have e2 : -(n : Int) = (if n % m = 0 then 0 else ((m - n % m : Nat) : Int)) + (m : Int) * (-((n / m : Nat) : Int) - (if n % m = 0 then 0 else 1)) := by
        have hd : (n : Int) = (m : Int) * ((n / m : Nat) : Int) + ((n % m : Nat) : Int) := by
          rw [← Int.natCast_mul, ← Int.natCast_add, hdm]
        split
        · rename_i h0
          rw [h0] at hd
          grind
        · rw [Int.natCast_sub (by omega)]
          grind
      rw [e2, Int.add_mul_emod_self_left]
      split
      · simp
      · rw [← Int.natCast_emod, Nat.mod_eq_of_lt (by omega)]
    rw [key]
    split
    · rw [if_neg (by omega), addI_i64 (by omega)]
      congr 1
      omega
    · rw [if_pos (by omega)]
      congr 1
      omega
  · rw [if_neg (by rw [Int.tmod_eq_emod_of_nonneg c]; have := Int.emod_nonneg a (show b ≠ 0 by omega); omega), Int.tmod_eq_emod_of_nonneg c]

theorem told_law {a c : List Int} {b d : Int} {t : Bool} (h : toldF (a, b, c, d) = some t) : ∃ k : Nat, told_b0 a b c d = some t := by
  obtain ⟨h1, rfl⟩ := gu_eq.1 h
  dsimp only at *
  refine ⟨0, ?_⟩
  rw [told_b0, cond_dec]
  by_cases c1 : b = d
  · rw [if_pos c1, sameF_ok h1, Option.bind_some]
    simp [c1]
  · rw [if_neg c1]
    simp [c1]

theorem nNormZ_law {a t : List Int} (h : nNormF a = some t) : ∃ k : Nat, nNormZ_b0 a = some t := nNorm_law h

/-! ### what helpers tell -/
theorem cutF_ok {x : List Int} (h : W64 x) : cutF x = some (x.take 60) := gu_pos h
theorem V_cut {x : List Int} (h : W64 x) : V (x.take 60) := ⟨h.take 60, by rw [List.length_take]; omega⟩
theorem val_cut {x : List Int} (h : W64 x) : val (x.take 60) < 18446744073709551616 ^ 60 := val_take_lt h 60
theorem addF_ok {x y : List Int} (hx : V x) (hy : V y) (h : val x + val y < Lim) : addF (x, y) = some (can (val x + val y), true) := by
  rw [addF, gu_pos ⟨hx, hy⟩]
  simp only [okp]
  rw [if_pos h]
theorem mulF_ok {x y : List Int} (hx : V x) (hy : V y) (h : val x * val y < Lim) : mulF (x, y) = some (can (val x * val y), true) := by
  rw [mulF, gu_pos ⟨hx, hy⟩]
  simp only [okp]
  rw [if_pos h]
theorem nAddF_ok {x y : List Int} (hx : V x) (hy : V y) (h : val x + val y < Lim) : nAddF (x, y) = some (can (val x + val y), 0) := by rw [nAddF_V hx hy, bnd_ok h]
theorem nSubF_ok {x y : List Int} (hx : V x) (hy : V y) (h : val y ≤ val x) (h2 : val x < Lim) : nSubF (x, y) = some (can (val x - val y), 0) := by
  rw [nSubF, gu_pos ⟨hx, hy⟩]
  dsimp only
  rw [if_neg (by omega), bnd_ok (by omega)]
theorem nSubF_lt {x y : List Int} (hx : V x) (hy : V y) (h : val x < val y) : nSubF (x, y) = some ([], 20) := by
  rw [nSubF, gu_pos ⟨hx, hy⟩]
  dsimp only
  rw [if_pos h]
theorem nCmpF_ok {x y : List Int} (hx : V x) (hy : V y) : nCmpF (x, y) = some (sgn (val x) (val y)) := gu_pos ⟨hx.U, hy.U⟩
theorem aliveF_ok : aliveF PUnit.unit = some true := gu_pos trivial
theorem nNormF_ok {x : List Int} (h : V x) : nNormF x = some (can (val x)) := gu_pos h.U
theorem mul60 {n : Nat} (h : n ≤ 60) : n * 18446744073709551616 ^ 60 < Lim := by
  refine lt_Lim (n := 61) ?_ (by rw [lw_eq]; omega)
  have : 18446744073709551616 ^ 61 = 18446744073709551616 ^ 60 * 18446744073709551616 := Nat.pow_succ 18446744073709551616 60
  rw [this]
  have hp : 0 < 18446744073709551616 ^ 60 := Nat.pow_pos (by omega)
  have h2 : n * 18446744073709551616 ^ 60 ≤ 60 * 18446744073709551616 ^ 60 := Nat.mul_le_mul_right _ h
  generalize 18446744073709551616 ^ 60 = p at *
  omega
theorem cut_ok : CtrOk Go.Proofs.Try.prog 27 (mkF [.sl (.int .u64)] [.sl (.int .u64)] cutF) := by
  refine mkF_ok (c := bodyOf Go.Proofs.Try.f27) (tab := S.tab) (cts := []) (res := [2]) tab_ok hm trivial Go.Proofs.Try.func27 (by kernel_rfl) (by kernel_rfl) (by kernel_rfl) (by kernel_rfl) (by kernel_rfl) ?_
  rintro a t h
  obtain ⟨k, hk⟩ := cut_law h
  exact ⟨cut_h, 3000, k, (cut_ev k a).trans hk⟩

theorem same_ok : CtrOk Go.Proofs.Try.prog 31 (mkF [.sl (.int .u64), .sl (.int .u64)] [.bool] sameF) := by
  refine mkF_ok (c := bodyOf Go.Proofs.Try.f31) (tab := S.tab) (cts := []) (res := [4]) tab_ok hm trivial Go.Proofs.Try.func31 (by kernel_rfl) (by kernel_rfl) (by kernel_rfl) (by kernel_rfl) (by kernel_rfl) ?_
  rintro ⟨a, b⟩ t h
  obtain ⟨k, hk⟩ := same_law h
  exact ⟨same_h, 3000, k, (same_ev k a b).trans hk⟩

theorem add_ok : CtrOk Go.Proofs.Try.prog 28 (mkF [.sl (.int .u64), .sl (.int .u64)] [.sl (.int .u64), .bool] addF) := by
  refine mkF_ok (c := bodyOf Go.Proofs.Try.f28) (tab := S.tab) (cts := [(40, mkF [.sl (.int .u64), .sl (.int .u64)] [.sl (.int .u64), .int .i64] nAddF)]) (res := [4, 5]) tab_ok hm ⟨nAdd_ok, trivial⟩ Go.Proofs.Try.func28 (by kernel_rfl) (by kernel_rfl) (by kernel_rfl) (by kernel_rfl) (by kernel_rfl) ?_
  rintro ⟨a, b⟩ t h
  obtain ⟨k, hk⟩ := add_law h
  exact ⟨add_h, 3000, k, (add_ev k a b).trans hk⟩

theorem normal_ok : CtrOk Go.Proofs.Try.prog 35 (mkF [.sl (.int .u64)] [.bool] normalF) := by
  refine mkF_ok (c := bodyOf Go.Proofs.Try.f35) (tab := S.tab) (cts := []) (res := [2]) tab_ok hm trivial Go.Proofs.Try.func35 (by kernel_rfl) (by kernel_rfl) (by kernel_rfl) (by kernel_rfl) (by kernel_rfl) ?_
  rintro a t h
  obtain ⟨k, hk⟩ := normal_law h
  exact ⟨normal_h, 3000, k, (normal_ev k a).trans hk⟩

theorem alive_ok : CtrOk Go.Proofs.Try.prog 29 (mkF [] [.bool] aliveF) := by
  refine mkF_ok (c := bodyOf Go.Proofs.Try.f29) (tab := S.tab) (cts := [(40, mkF [.sl (.int .u64), .sl (.int .u64)] [.sl (.int .u64), .int .i64] nAddF), (31, mkF [.sl (.int .u64), .sl (.int .u64)] [.bool] sameF)]) (res := [0]) tab_ok hm ⟨nAdd_ok, same_ok, trivial⟩ Go.Proofs.Try.func29 (by kernel_rfl) (by kernel_rfl) (by kernel_rfl) (by kernel_rfl) (by kernel_rfl) ?_
  rintro ⟨⟩ t h
  obtain ⟨k, hk⟩ := alive_law h
  exact ⟨alive_h, 3000, k, (alive_ev k ).trans hk⟩

theorem into_ok : CtrOk Go.Proofs.Try.prog 68 (mkF [.int .i64, .int .i64] [.int .i64] intoF) := by
  refine mkF_ok (c := bodyOf Go.Proofs.Try.f68) (tab := S.tab) (cts := []) (res := [4]) tab_ok hm trivial Go.Proofs.Try.func68 (by kernel_rfl) (by kernel_rfl) (by kernel_rfl) (by kernel_rfl) (by kernel_rfl) ?_
  rintro ⟨a, b⟩ t h
  obtain ⟨k, hk⟩ := into_law h
  exact ⟨into_h, 3000, k, (into_ev k a b).trans hk⟩

theorem told_ok : CtrOk Go.Proofs.Try.prog 54 (mkF [.sl (.int .u64), .int .i64, .sl (.int .u64), .int .i64] [.bool] toldF) := by
  refine mkF_ok (c := bodyOf Go.Proofs.Try.f54) (tab := S.tab) (cts := [(31, mkF [.sl (.int .u64), .sl (.int .u64)] [.bool] sameF)]) (res := [8]) tab_ok hm ⟨same_ok, trivial⟩ Go.Proofs.Try.func54 (by kernel_rfl) (by kernel_rfl) (by kernel_rfl) (by kernel_rfl) (by kernel_rfl) ?_
  rintro ⟨a, b, c, d⟩ t h
  obtain ⟨k, hk⟩ := told_law h
  exact ⟨told_h, 3000, k, (told_ev k a b c d).trans hk⟩

theorem nNormZ_ok : CtrOk Go.Proofs.Try.prog 32 (mkF [.sl (.int .u64)] [.sl (.int .u64)] nNormF) := by
  refine mkF_ok (c := bodyOf Go.Proofs.Try.f32) (tab := S.tab) (cts := [(111, mkF [.sl (.int .u64)] [.int .i64] nSizeF)]) (res := [2]) tab_ok hm ⟨nSize_ok, trivial⟩ Go.Proofs.Try.func32 (by kernel_rfl) (by kernel_rfl) (by kernel_rfl) (by kernel_rfl) (by kernel_rfl) ?_
  rintro a t h
  obtain ⟨k, hk⟩ := nNormZ_law h
  exact ⟨nNormZ_h, 3000, k, (nNormZ_ev k a).trans hk⟩

end Go.RX.S
