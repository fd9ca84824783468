/- NatBack: what is added can be taken away. -/
import Derived.Test.YtandibmpaamfbaaVa
set_option linter.unusedVariables false
set_option linter.unusedSimpArgs false
namespace Go.RX.S
open Go Go.RX

theorem aget_asInts {c : List AV} {i : Nat} (h : i < c.length) : (aget c i).asInts ∈ rows c := by
  rw [aget_eq c i h]
  exact List.mem_map.2 ⟨_, List.getElem_mem h, rfl⟩
theorem NatBack_loop {c : List AV} (hc : ∀ r ∈ rows c, W64 r) : ∀ (k i : Nat) (l : List AV) (v : Nat), i ≤ 12 → l.length = i → (∀ x ∈ rows l, V x) → ((rows l).map val).sum = v → v ≤ i * 18446744073709551616 ^ 60 → 12 - i + 1 ≤ k → NatBack_L38 k c (can v) (i : Int) l = some true
  | 0, i, l, v, _, _, _, _, _, hk => by omega
  | k + 1, i, l, v, hi, hl, hV, hs, hv, hk => by
    have hp : 0 < 18446744073709551616 ^ 60 := Nat.pow_pos (by omega)
    have hlim := mul60 (n := 13) (by omega)
    have h12 : i * 18446744073709551616 ^ 60 ≤ 12 * 18446744073709551616 ^ 60 := Nat.mul_le_mul_right _ hi
    have hvl : v < Lim := by omega
    have fin : (Option.bind (nSumF l) fun t => bif decide (t.2 = (0 : Int)) then Option.bind (sameF (t.1, can v)) fun t => some t else some false) = some true := by
      rw [nSumF, gu_pos ⟨hV, by omega⟩, Option.bind_some, hs, bnd_ok hvl]
      simp only [decide_true, cond_t]
      rw [sameF_can hvl, Option.bind_some]
      simp
    rw [NatBack_L38, NatBack_b38, fin, cond_dec, cond_dec]
    by_cases c1 : i < c.length
    · rw [if_pos (by omega)]
      by_cases c2 : i < 12
      · have hw := hc _ (aget_asInts c1)
        have hcut := val_cut hw
        have h13 : (i + 1) * 18446744073709551616 ^ 60 ≤ 13 * 18446744073709551616 ^ 60 := Nat.mul_le_mul_right _ (by omega)
        rw [Nat.succ_mul] at h13
        have hnew : v + val ((aget c i).asInts.take 60) < Lim := by omega
        rw [if_pos (by omega), inR c1, cond_t, Int.toNat_natCast, cutF_ok hw, Option.bind_some, cond_dec, if_pos (by rw [List.length_append, List.length_singleton]; omega)]
        rw [addF_ok (V_can hvl) (V_cut hw) (by rw [val_can]; exact hnew), Option.bind_some, val_can, inc (by omega)]
        simp only [Bool.not_true, cond_f]
        refine NatBack_loop hc k (i + 1) _ _ (by omega) (by simp [hl]) ?_ ?_ (by rw [Nat.succ_mul]; omega) (by omega)
        · intro x hx
          simp only [rows, List.map_append, List.map_cons, List.map_nil, List.mem_append, List.mem_singleton] at hx
          rcases hx with hx | rfl
          · exact hV x hx
          · exact V_cut hw
        · simp only [rows, List.map_append, List.map_cons, List.map_nil, List.sum_append, List.sum_cons, List.sum_nil, Nat.add_zero]
          rw [← hs]
          rfl
      · rw [if_neg (by omega)]
    · rw [if_neg (by omega)]
theorem dec_eq {a b : Int} (h : a = b) : decide (a = b) = true := decide_eq_true h
theorem NatBack_law {a b : List Int} {c : List AV} {t : Bool} (h : NatBackF (a, b, c) = some t) : ∃ k : Nat, NatBack_b0 (NatBack_L38 k) a b c = some t := by
  obtain ⟨⟨ha, hb, hc, _⟩, rfl⟩ := gu_eq.1 h
  dsimp only at *
  refine ⟨13, ?_⟩
  have hend := NatBack_loop hc 13 0 [] 0 (by omega) rfl (by simp [rows]) (by simp [rows]) (by omega) (by omega)
  rw [can_zero] at hend
  have hx := V_cut ha
  have hy := V_cut hb
  have hxl := val_cut ha
  have hyl := val_cut hb
  have hlim := mul60 (n := 2) (by omega)
  have hp : 0 < 18446744073709551616 ^ 60 := Nat.pow_pos (by omega)
  rw [NatBack_b0, cutF_ok ha, cutF_ok hb]
  simp only [Option.bind_some]
  generalize a.take 60 = x at *
  generalize b.take 60 = y at *
  have hs : val x + val y < Lim := by omega
  have hVs := V_can hs
  rw [addF_ok hx hy hs]
  simp only [Option.bind_some, Bool.not_true, cond_f, aliveF_ok]
  rw [nSubF_ok hVs hy (by rw [val_can]; omega) (by rw [val_can]; exact hs), nSubF_ok hVs hVs (Nat.le_refl _) (by rw [val_can]; exact hs)]
  simp only [Option.bind_some, decide_true, Bool.not_true, cond_f, val_can, Nat.add_sub_cancel, Nat.sub_self]
  rw [nNormF_ok hx]
  simp only [Option.bind_some]
  rw [sameF_can (by omega)]
  simp only [Option.bind_some, decide_true, Bool.not_true, cond_f, can_zero, List.length_nil, Int.natCast_zero]
  rw [nCmpF_ok hx hy]
  unfold sgn
  by_cases c1 : val x < val y
  · rw [nSubF_lt hx hy c1, if_pos c1]
    simp only [Option.bind_some, decide_true, Bool.not_true, cond_f, List.length_nil, Int.natCast_zero]
    rw [cond_dec, if_pos (by omega)]
    exact hend
  · rw [nSubF_ok hx hy (by omega) (by omega), if_neg c1]
    have hd : val x - val y < Lim := by omega
    simp only [Option.bind_some]
    rw [cond_dec, if_neg (by split <;> omega), addF_ok (V_can hd) hy (by rw [val_can]; omega)]
    simp only [Option.bind_some, decide_true, Bool.not_true, cond_f, val_can]
    rw [show val x - val y + val y = val x from by omega, sameF_can (by omega)]
    simp only [Option.bind_some, decide_true, Bool.not_true, cond_f]
    exact hend
theorem NatBack_ok : CtrOk Go.Proofs.Try.prog 3 (mkF [.sl (.int .u64), .sl (.int .u64), .sl (.sl (.int .u64))] [.bool] NatBackF) := by
  refine mkF_ok (c := bodyOf Go.Proofs.Try.f3) (tab := S.tab) (cts := [(27, mkF [.sl (.int .u64)] [.sl (.int .u64)] cutF), (28, mkF [.sl (.int .u64), .sl (.int .u64)] [.sl (.int .u64), .bool] addF), (29, mkF [] [.bool] aliveF), (30, mkF [.sl (.int .u64), .sl (.int .u64)] [.sl (.int .u64), .int .i64] nSubF), (31, mkF [.sl (.int .u64), .sl (.int .u64)] [.bool] sameF), (32, mkF [.sl (.int .u64)] [.sl (.int .u64)] nNormF), (33, mkF [.sl (.int .u64), .sl (.int .u64)] [.int .i64] nCmpF), (34, mkF [.sl (.sl (.int .u64))] [.sl (.int .u64), .int .i64] nSumF)]) (res := [6]) tab_ok hm ⟨cut_ok, add_ok, alive_ok, nSub_ok, same_ok, nNormZ_ok, nCmp_ok, nSum_ok, trivial⟩ Go.Proofs.Try.func3 (by kernel_rfl) (by kernel_rfl) (by kernel_rfl) (by kernel_rfl) (by kernel_rfl) ?_
  rintro ⟨a, b, c⟩ t h
  obtain ⟨k, hk⟩ := NatBack_law h
  exact ⟨NatBack_h, 3000, k, (NatBack_ev k a b c).trans hk⟩

end Go.RX.S
