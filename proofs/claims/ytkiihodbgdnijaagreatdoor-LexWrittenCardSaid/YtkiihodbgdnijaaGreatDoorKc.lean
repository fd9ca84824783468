/- plumblaw09: what is computed. -/
import Derived.Test.YtkiihodbgdnijaaGreatDoorJc
import Derived.Lib.ItoaLen
set_option linter.unusedVariables false
set_option linter.unusedSimpArgs false
namespace Go.RX.S
open Go Go.RX Go.Proofs

theorem strOf_map (l : List UInt8) : strOfI (l.map fun b => (b.toNat : Int)) = sb l := by
  unfold strOfI sb
  rw [List.map_map]
  have : ((fun n : Int => UInt8.ofNat n.toNat) ∘ fun b : UInt8 => (b.toNat : Int)) = id := by
    funext b
    simp
  rw [this, List.map_id]

theorem x9sign_law {a : Int} {b : Bool} {t : ByteArray} (h : x9signF (a, b) = some t) : ∃ k : Nat, x9sign_b0 a b = some t := by
  cases h
  refine ⟨0, ?_⟩
  unfold x9sign_b0
  cases decide (a < 0) <;> cases b <;> rfl
theorem x9digit_law {a : Int} {b : Bool} {t : Bool} (h : x9digitF (a, b) = some t) : ∃ k : Nat, x9digit_b0 a b = some t := by
  cases h
  refine ⟨0, ?_⟩
  unfold x9digit_b0
  by_cases h1 : 48 ≤ a <;> by_cases h2 : a ≤ 57 <;> by_cases h3 : 97 ≤ a <;> by_cases h4 : a ≤ 102 <;> by_cases h5 : 65 ≤ a <;> by_cases h6 : a ≤ 70 <;> cases b <;> simp [h1, h2, h3, h4, h5, h6]
theorem x9signless_law {a : ByteArray} {t : ByteArray} (h : x9signlessF a = some t) : ∃ k : Nat, x9signless_b0 a = some t := by
  obtain ⟨h1, h2⟩ := Option_cond h
  cases h2
  refine ⟨0, ?_⟩
  unfold x9signless_b0
  rw [strEq_nil]
  cases hb : bs a with
  | nil =>
    simp only [List.isEmpty_nil, Bool.not_true, cond_false, signless]
    rw [← hb, sb_bs]
  | cons c r =>
    have hs : a.size = r.length + 1 := by rw [← bs_len, hb]; rfl
    have hc : byteAt a 0 = (c.toNat : Int) := byteAt_bs (i := 0) (by rw [hb]; rfl)
    have hr : inRange 0 a.size = true := inR (i := 0) (by omega)
    have d1 : decide ((1 : Int) ≤ (a.size : Int)) = true := decide_eq_true (by omega)
    have hx : ByteArray.extract a 1 (Int.toNat (↑(ByteArray.size a) : Int)) = sb r := by
      rw [ext_sb, Int.toNat_natCast, List.take_of_length_le (by rw [bs_len]; exact Nat.le_refl _), hb]
      rfl
    have ha : a = sb (c :: r) := by rw [← hb, sb_bs]
    simp only [List.isEmpty_cons, Bool.not_false, cond_true, hr, hc, d1, hx, byteD43, byteD45]
    cases c43 : c == 43
    · cases c45 : c == 45
      · simp only [signless, isS, c43, c45, Bool.or_self, cond_false]
        rw [← ha]
      · simp [signless, isS, c45]
    · simp [signless, isS, c43]

/-! ### digits -/
theorem great_at : ∀ n : Fin 16, byteAt (strOfI [48, 49, 50, 51, 52, 53, 54, 55, 56, 57, 65, 66, 67, 68, 69, 70]) (n.val : Int) = ((digB true (n.val : Int)).toNat : Int) := by decide
theorem small_at : ∀ n : Fin 16, byteAt (strOfI [48, 49, 50, 51, 52, 53, 54, 55, 56, 57, 97, 98, 99, 100, 101, 102]) (n.val : Int) = ((digB false (n.val : Int)).toNat : Int) := by decide
theorem great_int {t : Int} (h0 : 0 ≤ t) (h1 : t < 16) : byteAt (strOfI [48, 49, 50, 51, 52, 53, 54, 55, 56, 57, 65, 66, 67, 68, 69, 70]) t = ((digB true t).toNat : Int) := by
  have := great_at ⟨t.toNat, by omega⟩
  have e : ((t.toNat : Nat) : Int) = t := by omega
  simpa only [e] using this
theorem small_int {t : Int} (h0 : 0 ≤ t) (h1 : t < 16) : byteAt (strOfI [48, 49, 50, 51, 52, 53, 54, 55, 56, 57, 97, 98, 99, 100, 101, 102]) t = ((digB false t).toNat : Int) := by
  have := small_at ⟨t.toNat, by omega⟩
  have e : ((t.toNat : Nat) : Int) = t := by omega
  simpa only [e] using this
theorem digits_loop {l : List Int} {base : Int} {big : Bool} (hb : base = 10 ∨ base = 16) (hr : ∀ n, n ∈ l → -9223372036854775808 ≤ n ∧ n ≤ 9223372036854775807) : ∀ (j i k : Nat), i + j = min l.length 40 → j < k →
    x9digits_L6 k l base big (i : Int) (((l.take i).map fun n => digB big (n % base)).map fun b => (b.toNat : Int)) = some (sb (digsL l base big))
  | 0, i, k + 1, hj, hk => by
    rw [x9digits_L6, x9digits_b6]
    have he : l.take i = l.take 40 := by
      rcases Nat.le_total l.length 40 with h | h
      · rw [List.take_of_length_le (by omega), List.take_of_length_le h]
      · rw [show i = 40 from by omega]
    rw [he, strOf_map]
    by_cases c : (i : Int) < (l.length : Int)
    · rw [decide_eq_true c, decide_eq_false (by omega : ¬ ((i : Int) < 40))]
      rfl
    · rw [decide_eq_false c]
      rfl
  | j + 1, i, k + 1, hj, hk => by
    have hi : i < l.length := by omega
    have ih := digits_loop (big := big) hb hr j (i + 1) k (by omega) (by omega)
    have hx : rdI l (i : Int) = l[i] := by
      unfold rdI
      rw [Int.toNat_natCast, List.getD_eq_getElem?_getD, List.getElem?_eq_getElem hi]
      rfl
    obtain ⟨r1, r2⟩ := hr l[i] (List.getElem_mem hi)
    have hin : into9F (l[i], base) = some (l[i] % base) := by
      unfold into9F
      dsimp only
      rw [decide_eq_true r1, decide_eq_true r2]
      rcases hb with rfl | rfl <;> rfl
    have m1 : 0 ≤ l[i] % base := Int.emod_nonneg _ (by rcases hb with rfl | rfl <;> decide)
    have m2 : l[i] % base < 16 := by
      rcases hb with rfl | rfl
      · have := Int.emod_lt_of_pos l[i] (by decide : (0 : Int) < 10)
        omega
      · exact Int.emod_lt_of_pos l[i] (by decide : (0 : Int) < 16)
    have hrg : inRange (l[i] % base) 16 = true := inRange_iff.2 ⟨m1, m2⟩
    have hn : (((l.take i).map fun n => digB big (n % base)).map fun b => (b.toNat : Int)) ++ [((digB big (l[i] % base)).toNat : Int)] = (((l.take (i + 1)).map fun n => digB big (n % base)).map fun b => (b.toNat : Int)) := by
      rw [List.take_succ_eq_append_getElem hi, List.map_append, List.map_append]
      rfl
    have hlen : decide ((((((l.take (i + 1)).map fun n => digB big (n % base)).map fun b => (b.toNat : Int)).length : Nat) : Int) * 1 ≤ 140737488355328) = true := decide_eq_true (by
      rw [List.length_map, List.length_map, List.length_take]
      omega)
    rw [x9digits_L6, x9digits_b6]
    rw [decide_eq_true (by omega : (i : Int) < (l.length : Int)), decide_eq_true (by omega : (i : Int) < 40), inR hi, hx, hin, inc (by omega)]
    cases big
    · simp only [cond_true, cond_false, Option.bind_some, hrg]
      rw [small_int m1 m2, hn, hlen, cond_true]
      exact ih
    · simp only [cond_true, Option.bind_some, hrg]
      rw [great_int m1 m2, hn, hlen, cond_true]
      exact ih
theorem x9digits_law {a : List Int} {b : Int} {c : Bool} {t : ByteArray} (h : x9digitsF (a, b, c) = some t) : ∃ k : Nat, x9digits_b0 (x9digits_L6 k) a b c = some t := by
  obtain ⟨h1, h2⟩ := Option_cond h
  cases h2
  rw [Bool.and_eq_true, Bool.or_eq_true, decide_eq_true_eq, decide_eq_true_eq, List.all_eq_true] at h1
  obtain ⟨hb, hr⟩ := h1
  refine ⟨min a.length 40 + 1, ?_⟩
  unfold x9digits_b0
  exact digits_loop hb (fun n hn => by have := hr n hn; simpa using this) (min a.length 40) 0 _ (by omega) (Nat.lt_succ_self _)

/-! ### number -/
theorem x9numKF_eq : ∀ (k : Nat) (n : Int) (t : ByteArray), x9numKF k n = some t → (0 ≤ n ∧ n ≤ 9223372036854775807) ∧ t = sb (Lib.decDigits n.toNat)
  | 0, n, t, h => by cases h
  | k + 1, n, t, h => by
    rw [x9numKF] at h
    obtain ⟨h0, h⟩ := Option_cond h
    rw [Bool.and_eq_true, decide_eq_true_eq, decide_eq_true_eq] at h0
    refine ⟨h0, ?_⟩
    cases hd : decide (n < 10)
    · rw [hd, cond_false] at h
      obtain ⟨u, hu, rfl⟩ := Option.map_eq_some_iff.1 h
      rfl
    · rw [hd, cond_true] at h
      cases h
      rfl
theorem x9numKF_all : ∀ (k : Nat) (n : Int), 0 ≤ n → n ≤ 9223372036854775807 → n.toNat < k → x9numKF k n = some (sb (Lib.decDigits n.toNat))
  | 0, n, h, h9, hk => by omega
  | k + 1, n, h, h9, hk => by
    rw [x9numKF, decide_eq_true h, decide_eq_true h9, Bool.and_self, cond_true]
    by_cases c : n < 10
    · rw [decide_eq_true c]
      rfl
    · rw [decide_eq_false c, cond_false, x9numKF_all k (n / 10) (by omega) (by omega) (by omega)]
      rfl
theorem dig_one {n : Int} (h0 : 0 ≤ n) (h1 : n < 10) : strOfI [cvI .u8 (addI .i64 48 n)] = sb [UInt8.ofNat (48 + n.toNat)] := by
  rw [addI_i64 (by omega)]
  have : cvI .u8 (48 + n) = 48 + n := IntWalk.u8_in _ (by omega)
  rw [this]
  unfold strOfI sb
  have e : (48 + n).toNat = 48 + n.toNat := by omega
  simp [e]
theorem x9num_law (K : Nat) {a : Int} {t : ByteArray} (h : x9numKF (K + 1) a = some t) : x9num_b0 K a = some t := by
  obtain ⟨⟨h0, hl⟩, rfl⟩ := x9numKF_eq _ _ _ h
  unfold x9num_b0
  by_cases c : a < 10
  · rw [decide_eq_true c, cond_true, dig_one h0 c, Lib.decDigits_one (by omega)]
  · rw [decide_eq_false c, cond_false]
    rw [x9numKF, decide_eq_true h0, decide_eq_true hl, Bool.and_self, cond_true, decide_eq_false c, cond_false] at h
    obtain ⟨u, hu, _⟩ := Option.map_eq_some_iff.1 h
    obtain ⟨_, hu2⟩ := x9numKF_eq _ _ _ hu
    have hq : divI .i64 a 10 = a / 10 := by
      unfold divI
      rw [Int.tdiv_eq_ediv_of_nonneg h0]
      exact IntWalk.i64_in _ (by omega)
    have hm : remI a 10 = a % 10 := by
      unfold remI
      exact Int.tmod_eq_emod_of_nonneg h0
    rw [hq, hu, Option.bind_some, hu2, hm, dig_one (by omega) (by omega)]
    have hlen : (Lib.decDigits (a / 10).toNat).length ≤ 20 := by
      rw [Lib.decDigits_length]
      exact Lib.nDigits_le20 _ (by omega)
    rw [sb_size, decide_eq_true (by omega : (Lib.decDigits (a / 10).toNat).length + 1 ≤ 9223372036854775807), cond_true, sb_cat]
    have hd : Lib.decDigits a.toNat = Lib.decDigits (a / 10).toNat ++ [UInt8.ofNat (48 + (a % 10).toNat)] := by
      rw [Lib.decDigits, dif_neg (by omega)]
      rw [show (a / 10).toNat = a.toNat / 10 from by omega, show (a % 10).toNat = a.toNat % 10 from by omega]
    rw [hd]

theorem alive_ok1 : scanOk [45, 49, 46, 53, 48, 101, 49] 0 = true := by kernel_rfl
theorem alive_ok2 : parseN [45, 49, 46, 53, 48, 101, 49] = (⟨1, true, [49, 53, 48], -1, []⟩, none) := by kernel_rfl
theorem x9alive_law {a : Unit} {t : Bool} (h : x9aliveF a = some t) : ∃ k : Nat, x9alive_b0 = some t := by
  cases h
  refine ⟨0, ?_⟩
  unfold x9alive_b0
  have e : strOfI [(45 : Int), (49 : Int), (46 : Int), (53 : Int), (48 : Int), (101 : Int), (49 : Int)] = sb [45, 49, 46, 53, 48, 101, 49] := rfl
  have hp : xParseF (sb [45, 49, 46, 53, 48, 101, 49]) = some (Nm.to ⟨1, true, [49, 53, 48], -1, []⟩, none) := by
    simp only [xParseF, bs_sb, alive_ok1, alive_ok2, cond_true]
  rw [e, hp, Option.bind_some]
  dsimp only
  rw [strEq_bs, strEq_bs]
  rfl
theorem x9num_k : ∀ K, CtrOk Go.Proofs.Tryz.prog 84 (mkF [.int .i64] [.str] (x9numKF K))
  | 0 => vac_ok ⟨_, Go.Proofs.Tryz.func84, by kernel_rfl, by kernel_rfl⟩ (fun x t h => by cases h)
  | K + 1 => by
    refine mkF_ok (c := bodyOf Go.Proofs.Tryz.f84) (tab := S.tab) (cts := [(84, mkF [.int .i64] [.str] (x9numKF K))]) (res := [2]) tab_ok hm ⟨x9num_k K, trivial⟩ Go.Proofs.Tryz.func84 (by kernel_rfl) (by kernel_rfl) (by kernel_rfl) (by kernel_rfl) (by kernel_rfl) ?_
    rintro a t h
    exact ⟨x9num_h, 3000, 0, (x9num_ev 0 K a).trans (x9num_law K h)⟩
theorem x9numF_k {n : Int} {t : ByteArray} (h : x9numF n = some t) : ∃ k, x9numKF k n = some t := by
  obtain ⟨h0, h⟩ := Option_cond h
  cases h
  rw [Bool.and_eq_true, decide_eq_true_eq, decide_eq_true_eq] at h0
  exact ⟨_, x9numKF_all _ n h0.1 h0.2 (Nat.lt_succ_self _)⟩
theorem x9num_ok : CtrOk Go.Proofs.Tryz.prog 84 (mkF [.int .i64] [.str] x9numF) := by
  exact union_ok x9num_k fun n t h => x9numF_k h

theorem x9sign_ok : CtrOk Go.Proofs.Tryz.prog 82 (mkF [.int .i64, .bool] [.str] x9signF) := by
  refine mkF_ok (c := bodyOf Go.Proofs.Tryz.f82) (tab := S.tab) (cts := []) (res := [4]) tab_ok hm trivial Go.Proofs.Tryz.func82 (by kernel_rfl) (by kernel_rfl) (by kernel_rfl) (by kernel_rfl) (by kernel_rfl) ?_
  rintro ⟨a, b⟩ t h
  obtain ⟨k, hk⟩ := x9sign_law h
  exact ⟨x9sign_h, 3000, k, (x9sign_ev k a b).trans hk⟩

theorem x9digits_ok : CtrOk Go.Proofs.Tryz.prog 33 (mkF [.sl (.int .i64), .int .i64, .bool] [.str] x9digitsF) := by
  refine mkF_ok (c := bodyOf Go.Proofs.Tryz.f33) (tab := S.tab) (cts := [(28, mkF [.int .i64, .int .i64] [.int .i64] into9F)]) (res := [6]) tab_ok hm ⟨into9_ok, trivial⟩ Go.Proofs.Tryz.func33 (by kernel_rfl) (by kernel_rfl) (by kernel_rfl) (by kernel_rfl) (by kernel_rfl) ?_
  rintro ⟨a, b, c⟩ t h
  obtain ⟨k, hk⟩ := x9digits_law h
  exact ⟨x9digits_h, 3000, k, (x9digits_ev k a b c).trans hk⟩

theorem x9alive_ok : CtrOk Go.Proofs.Tryz.prog 31 (mkF [] [.bool] x9aliveF) := by
  refine mkF_ok (c := bodyOf Go.Proofs.Tryz.f31) (tab := S.tab) (cts := [(32, mkF [.str] [.st [.int .i64, .bool, .str, .int .i64, .str], .err] xParseF)]) (res := [0]) tab_ok hm ⟨xParse_ok, trivial⟩ Go.Proofs.Tryz.func31 (by kernel_rfl) (by kernel_rfl) (by kernel_rfl) (by kernel_rfl) (by kernel_rfl) ?_
  rintro ⟨⟩ t h
  obtain ⟨k, hk⟩ := x9alive_law h
  exact ⟨x9alive_h, 3000, k, (x9alive_ev k ).trans hk⟩

theorem x9signless_ok : CtrOk Go.Proofs.Tryz.prog 90 (mkF [.str] [.str] x9signlessF) := by
  refine mkF_ok (c := bodyOf Go.Proofs.Tryz.f90) (tab := S.tab) (cts := []) (res := [2]) tab_ok hm trivial Go.Proofs.Tryz.func90 (by kernel_rfl) (by kernel_rfl) (by kernel_rfl) (by kernel_rfl) (by kernel_rfl) ?_
  rintro a t h
  obtain ⟨k, hk⟩ := x9signless_law h
  exact ⟨x9signless_h, 3000, k, (x9signless_ev k a).trans hk⟩

theorem x9digit_ok : CtrOk Go.Proofs.Tryz.prog 144 (mkF [.int .u8, .bool] [.bool] x9digitF) := by
  refine mkF_ok (c := bodyOf Go.Proofs.Tryz.f144) (tab := S.tab) (cts := []) (res := [4]) tab_ok hm trivial Go.Proofs.Tryz.func144 (by kernel_rfl) (by kernel_rfl) (by kernel_rfl) (by kernel_rfl) (by kernel_rfl) ?_
  rintro ⟨a, b⟩ t h
  obtain ⟨k, hk⟩ := x9digit_law h
  exact ⟨x9digit_h, 3000, k, (x9digit_ev k a b).trans hk⟩

end Go.RX.S
