/- plumblaw09: bare and made: contracts. -/
import Derived.Test.YtkiihodbgdnijaaGreatDoorJe
import Derived.Test.YtkiihodbgdnijaaGreatDoorGb
set_option linter.unusedVariables false
set_option linter.unusedSimpArgs false
namespace Go.RX.S
open Go Go.RX Go.Proofs

def i8 (l : List UInt8) : List Int := l.map fun b => (b.toNat : Int)
theorem bytesI_bs (s : ByteArray) : bytesI s = i8 (bs s) := rfl
theorem i8_len (l : List UInt8) : (i8 l).length = l.length := by simp [i8]
theorem strOf_i8 (l : List UInt8) : strOfI (i8 l) = sb l := strOf_map l
theorem rdN_i8 {l : List UInt8} {i : Nat} {b : UInt8} (h : l[i]? = some b) : rdN (i8 l) i = (b.toNat : Int) := by
  unfold rdN i8
  rw [List.getD_eq_getElem?_getD, List.getElem?_map, h]
  rfl
theorem low_fin : ∀ n : Fin 256, (65 ≤ n.val ∧ n.val ≤ 70) → addI .u8 ((n.val : Nat) : Int) 32 = ((lowX (UInt8.ofNat n.val)).toNat : Int) := by decide +kernel
theorem low_add {b : UInt8} (h1 : 65 ≤ b.toNat) (h2 : b.toNat ≤ 70) : addI .u8 (b.toNat : Int) 32 = ((lowX b).toNat : Int) := by
  have := low_fin ⟨b.toNat, b.toNat_lt⟩ ⟨h1, h2⟩
  simpa using this
theorem lowX_no {b : UInt8} (h : ¬ (65 ≤ b.toNat ∧ b.toNat ≤ 70)) : lowX b = b := by
  unfold lowX
  rw [Bool.and_eq_false_imp.2 (fun h1 => decide_eq_false fun h2 => h ⟨of_decide_eq_true h1, h2⟩)]
  rfl
theorem bare_loop {l : List UInt8} (hl : l.length ≤ 1000000) : ∀ (j i k : Nat), i + j = l.length → j < k → x9bare_L10 k (i : Int) (i8 ((l.take i).map lowX ++ l.drop i)) = some (sb (l.map lowX))
  | 0, i, k + 1, hj, hk => by
    rw [x9bare_L10, x9bare_b10]
    have e : (l.take i).map lowX ++ l.drop i = l.map lowX := by
      rw [List.take_of_length_le (by omega), List.drop_of_length_le (by omega), List.append_nil]
    rw [e, i8_len, List.length_map, decide_eq_false (by omega), cond_false, strOf_i8]
  | j + 1, i, k + 1, hj, hk => by
    have hi : i < l.length := by omega
    have ih := bare_loop hl j (i + 1) k (by omega) (by omega)
    have hd : l.drop i = l[i] :: l.drop (i + 1) := List.drop_eq_getElem_cons hi
    have hlen : ((l.take i).map lowX ++ l.drop i).length = l.length := by
      rw [List.length_append, List.length_map, List.length_take, List.length_drop]
      omega
    have htl : ((l.take i).map lowX).length = i := by rw [List.length_map, List.length_take]; omega
    have hat : ((l.take i).map lowX ++ l.drop i)[i]? = some l[i] := by
      rw [List.getElem?_append_right (by omega), htl, Nat.sub_self, hd]
      rfl
    have hn : (l.take (i + 1)).map lowX ++ l.drop (i + 1) = (l.take i).map lowX ++ lowX l[i] :: l.drop (i + 1) := by
      rw [List.take_succ_eq_append_getElem hi, List.map_append, List.append_assoc]
      rfl
    rw [x9bare_L10, x9bare_b10, i8_len, hlen]
    rw [decide_eq_true (by omega : (i : Int) < (l.length : Int)), cond_true, inR hi, cond_true, Int.toNat_natCast, rdN_i8 hat, inc (by omega)]
    have same : ¬ (65 ≤ (l[i]).toNat ∧ (l[i]).toNat ≤ 70) → x9bare_L10 k ((i + 1 : Nat) : Int) (i8 ((l.take i).map lowX ++ l.drop i)) = some (sb (l.map lowX)) := fun h => by
      rw [← ih, hn, lowX_no h, hd]
    by_cases c1 : 65 ≤ (l[i]).toNat
    · rw [decide_eq_true (by omega : ((l[i]).toNat : Int) ≥ 65), cond_true, cond_true]
      by_cases c2 : (l[i]).toNat ≤ 70
      · rw [decide_eq_true (by omega : ((l[i]).toNat : Int) ≤ 70), cond_true, cond_true, cond_true, low_add c1 c2]
        have hw : wrI (i8 ((l.take i).map lowX ++ l.drop i)) i ((lowX l[i]).toNat : Int) = i8 ((l.take (i + 1)).map lowX ++ l.drop (i + 1)) := by
          rw [hn]
          unfold wrI i8
          rw [hd, List.map_append, List.map_append, List.set_append_right _ _ (by rw [List.length_map, htl]; exact Nat.le_refl _), List.length_map, htl, Nat.sub_self]
          rfl
        rw [hw]
        exact ih
      · rw [decide_eq_false (by omega : ¬ ((l[i]).toNat : Int) ≤ 70), cond_false]
        exact same (by omega)
    · rw [decide_eq_false (by omega : ¬ ((l[i]).toNat : Int) ≥ 65), cond_false]
      exact same (by omega)
theorem bare_all {l : List UInt8} (hl : l.length ≤ 1000000) {k : Nat} (hk : l.length < k) : x9bare_L10 k 0 (bytesI (sb l)) = some (sb (l.map lowX)) := by
  have := bare_loop hl l.length 0 k (by omega) hk
  rw [bytesI_bs, bs_sb]
  simpa using this
theorem bare_head : ∀ (l : List UInt8) (k : Nat), l.length ≤ 1000000 → 2 * l.length + 1 < k → x9bare_L2 k (sb l) = some (sb (bareL l))
  | [], k + 1, hl, hk => by
    rw [x9bare_L2, x9bare_b2, sb_size]
    exact bare_all (l := []) hl (k := k) (by simp at hk ⊢; omega)
  | b :: l, k + 1, hl, hk => by
    simp only [List.length_cons] at hl hk
    rw [x9bare_L2, x9bare_b2, sb_size, List.length_cons]
    have hc : byteAt (sb (b :: l)) 0 = (b.toNat : Int) := byteAt_bs (i := 0) rfl
    have hr0 : inRange 0 (l.length + 1) = true := inR (i := 0) (by omega : 0 < l.length + 1)
    rw [decide_eq_true (by omega : (((l.length + 1 : Nat) : Int)) > 0), cond_true, hr0, cond_true, hc]
    have h48 : decide ((b.toNat : Int) = 48) = (b == 48) := byteD b 48
    rw [h48]
    cases hb : b == 48
    · rw [cond_false, bare_all (l := b :: l) (by simpa using hl) (by simp; omega)]
      have : baredL (b :: l) = b :: l := by unfold baredL; rw [List.dropWhile_cons, hb]; rfl
      rw [bareL, this]
    · rw [cond_true, decide_eq_true (by omega : (1 : Int) ≤ ((l.length + 1 : Nat) : Int)), cond_true]
      have hx : ByteArray.extract (sb (b :: l)) 1 (Int.toNat ((l.length + 1 : Nat) : Int)) = sb l := by
        rw [ext_sb, Int.toNat_natCast, bs_sb, List.take_of_length_le (by simp)]
        rfl
      rw [hx, bare_head l k (by omega) (by omega)]
      have : baredL (b :: l) = baredL l := by unfold baredL; rw [List.dropWhile_cons, hb]; rfl
      rw [bareL, bareL, this]
theorem x9bare_law {a : ByteArray} {t : ByteArray} (h : x9bareF a = some t) : ∃ k : Nat, x9bare_b0 (x9bare_L2 k) (x9bare_L10 k) a = some t := by
  obtain ⟨h1, h2⟩ := Option_cond h
  cases h2
  refine ⟨2 * (bs a).length + 2, ?_⟩
  unfold x9bare_b0
  exact bare_head (bs a) _ (lim_le h1) (by omega)
theorem x9bare_ok : CtrOk Go.Proofs.Tryz.prog 83 (mkF [.str] [.str] x9bareF) := by
  refine mkF_ok (c := bodyOf Go.Proofs.Tryz.f83) (tab := S.tab) (cts := []) (res := [2]) tab_ok hm trivial Go.Proofs.Tryz.func83 (by kernel_rfl) (by kernel_rfl) (by kernel_rfl) (by kernel_rfl) (by kernel_rfl) ?_
  rintro a t h
  obtain ⟨k, hk⟩ := x9bare_law h
  exact ⟨x9bare_h, 3000, k, (x9bare_ev k a).trans hk⟩

theorem x9made_ok : CtrOk Go.Proofs.Tryz.prog 30 (mkF [.st [.int .i64, .int .i64, .sl (.int .i64), .sl (.int .i64), .bool, .bool, .int .i64, .bool, .bool]] [.str, .st [.int .i64, .bool, .str, .int .i64, .str]] x9madeF) := by
  refine mkR_ok (c := bodyOf Go.Proofs.Tryz.f30) (tab := S.tab) (cts := [(28, mkF [.int .i64, .int .i64] [.int .i64] into9F), (82, mkF [.int .i64, .bool] [.str] x9signF), (33, mkF [.sl (.int .i64), .int .i64, .bool] [.str] x9digitsF), (83, mkF [.str] [.str] x9bareF), (84, mkF [.int .i64] [.str] x9numF)]) (res := [.tmp 2, .cell 3 23]) tab_ok hm ⟨into9_ok, x9sign_ok, x9digits_ok, x9bare_ok, x9num_ok, trivial⟩ Go.Proofs.Tryz.func30 (by kernel_rfl) (by kernel_rfl) (by kernel_rfl) (by kernel_rfl) (by kernel_rfl) ?_
  rintro a t h
  obtain ⟨k, hk⟩ := x9made_law h
  exact ⟨x9made_h, 3000, k, (x9made_ev k a).trans hk⟩

end Go.RX.S
