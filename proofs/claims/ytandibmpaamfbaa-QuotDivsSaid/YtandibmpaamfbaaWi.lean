/- quot: divisors and roots; plumblaw03's helpers. -/
import Derived.Test.YtandibmpaamfbaaWh
import Derived.Test.YtandibmpaamfbaaTf
set_option linter.unusedVariables false
set_option linter.unusedSimpArgs false
namespace Go.RX.S
open Go Go.RX

theorem L.V {x : List Int} (h : L x) : V x := ⟨h.1, by have := h.2; omega⟩
theorem DivModF_ok {x y : List Int} (hx : V x) (hy : V y) : DivModF (x, y) = some (if val y = 0 then ([], [], 30) else (can (val x / val y), can (val x % val y), 0)) := gu_pos ⟨hx, hy⟩
theorem V_le {a b : Nat} (h : a ≤ b) (hb : V (can b)) : V (can a) := ⟨can_ok _, Nat.le_trans (can_len_le h) hb.2⟩
theorem qaddF_ok {x y : List Int} (hx : V x) (hy : V y) : qaddF (x, y) = some (can (val x + val y)) := gu_pos ⟨hx, hy⟩
theorem qshrF_one {x : List Int} (hx : V x) : qshrF (x, 1) = some (can (val x / 2)) := by
  rw [qshrF, gu_pos ⟨hx, by show (0 : Int) ≤ 1; decide, by show (1 : Int) < 64; decide⟩]
  rfl

/-! ### divisors -/
theorem Gcd_loop : ∀ (Y X k : Nat), V (can X) → V (can Y) → Y + 1 ≤ k → Gcd_L4 k (can X) (can Y) = some (can (Nat.gcd X Y)) := by
  intro Y
  induction Y using Nat.strongRecOn with
  | _ Y ih =>
    intro X k hX hY hk
    obtain ⟨k, rfl⟩ : ∃ j, k = j + 1 := ⟨k - 1, by omega⟩
    rw [Gcd_L4, Gcd_b4, cond_dec]
    by_cases c : Y = 0
    · rw [c, can_zero, if_neg (by simp), Nat.gcd_zero_right]
    · have hne : (can Y).length ≠ 0 := fun h => c (can_nil.1 (List.length_eq_zero_iff.1 h))
      have hlt := Nat.mod_lt X (show 0 < Y by omega)
      rw [if_pos (by omega), DivModF_ok hX hY, Option.bind_some, val_can, val_can, if_neg c]
      dsimp only
      rw [ih (X % Y) hlt Y k hY (V_le (by omega) hY) (by omega), Nat.gcd_comm X Y, Nat.gcd_comm Y (X % Y), ← Nat.gcd_rec]
theorem Gcd_law {a b t : List Int} (h : GcdF (a, b) = some t) : ∃ k : Nat, Gcd_b0 (Gcd_L4 k) a b = some t := by
  obtain ⟨⟨ha, hb⟩, rfl⟩ := gu_eq.1 h
  dsimp only at *
  refine ⟨val b + 1, ?_⟩
  rw [Gcd_b0, nNormF_U ha.U, Option.bind_some, nNormF_U hb.U, Option.bind_some]
  exact Gcd_loop _ _ _ (V_val ha) (V_val hb) (by omega)
theorem GcdF_ok {x y : List Int} (hx : V x) (hy : V y) : GcdF (x, y) = some (can (Nat.gcd (val x) (val y))) := gu_pos ⟨hx, hy⟩
theorem V_gcd {x y : List Int} (hx : V x) (hy : V y) : V (can (Nat.gcd (val x) (val y))) := by
  rcases Nat.eq_zero_or_pos (val x) with h | h
  · rw [h, Nat.gcd_zero_left]
    exact V_val hy
  · exact V_le (Nat.gcd_le_left _ h) (V_val hx)
theorem Lowest_law {a b : List Int} {t : List Int × List Int} (h : LowestF (a, b) = some t) : ∃ k : Nat, Lowest_b0 a b = some t := by
  obtain ⟨⟨ha, hb⟩, rfl⟩ := gu_eq.1 h
  dsimp only at *
  refine ⟨0, ?_⟩
  rw [Lowest_b0, GcdF_ok ha hb, Option.bind_some, cond_dec]
  by_cases c : Nat.gcd (val a) (val b) = 0
  · rw [c, can_zero, if_pos (by simp), Nat.div_zero, Nat.div_zero, can_zero]
  · have hne : (can (Nat.gcd (val a) (val b))).length ≠ 0 := fun h => c (can_nil.1 (List.length_eq_zero_iff.1 h))
    rw [if_neg (by omega), DivModF_ok ha (V_gcd ha hb), Option.bind_some, DivModF_ok hb (V_gcd ha hb), Option.bind_some, val_can, if_neg c, if_neg c]

/-! ### roots -/
theorem newton {X s : Nat} (hs : 0 < s) : 2 * isq X ≤ s + X / s := by
  have h1 := (isq_spec X).1
  rcases Nat.lt_or_ge (2 * isq X) s with h | h
  · exact Nat.le_trans (Nat.le_of_lt h) (Nat.le_add_right _ _)
  · obtain ⟨d, hd⟩ : ∃ d, 2 * isq X = s + d := ⟨2 * isq X - s, by omega⟩
    have : d ≤ X / s := by
      rw [Nat.le_div_iff_mul_le hs]
      refine Nat.le_trans ?_ h1
      -- d * s ≤ r * r
      have h2 : 4 * (isq X * isq X) = (s + d) * (s + d) := by rw [← hd]; grind
      have h3 : (s + d) * (s + d) = s * s + 2 * (d * s) + d * d := by grind
      have h4 : 2 * (d * s) ≤ s * s + d * d := by
        rcases Nat.le_total d s with h5 | h5
        · obtain ⟨e, rfl⟩ := Nat.le.dest h5
          have : (d + e) * (d + e) + d * d = 2 * (d * (d + e)) + e * e := by grind
          omega
        · obtain ⟨e, rfl⟩ := Nat.le.dest h5
          have : s * s + (s + e) * (s + e) = 2 * ((s + e) * s) + e * e := by grind
          omega
      omega
    omega
theorem root_end {X s : Nat} (hs : 0 < s) (hr : isq X ≤ s) (h : s ≤ (s + X / s) / 2) : isq X = s := by
  have h1 : s ≤ X / s := by omega
  rw [Nat.le_div_iff_mul_le hs] at h1
  have h2 := (isq_spec X).2
  rcases Nat.lt_or_ge (isq X) s with h3 | h3
  · have : (isq X + 1) * (isq X + 1) ≤ s * s := Nat.mul_le_mul h3 h3
    omega
  · omega
theorem root_just {X s : Nat} (hs : 0 < s) : (X % s = 0 ∧ X / s = s) ↔ s * s = X := by
  have h := Nat.div_add_mod X s
  constructor
  · rintro ⟨h1, h2⟩
    rw [h1, h2] at h
    omega
  · intro h1
    rw [← h1]
    exact ⟨Nat.mul_mod_right _ _, Nat.mul_div_cancel _ hs⟩
theorem Root_loop {X n : Nat} (hX0 : X ≠ 0) (hX : X < 18446744073709551616 ^ n) (hn : n ≤ 17592186044000) : ∀ (v : Nat) (s : List Int) (k : Nat), val s = v → 0 < v → v ≤ 18446744073709551616 ^ n → V s → isq X ≤ v → v + 1 ≤ k →
    Root_L14 k (can X) s = some (can (isq X), decide (isq X * isq X = X)) := by
  intro v
  induction v using Nat.strongRecOn with
  | _ v ih =>
    intro s k hv hv0 hvn hs hr hk
    obtain ⟨k, rfl⟩ : ∃ j, k = j + 1 := ⟨k - 1, by omega⟩
    have hVX : V (can X) := ⟨can_ok _, Nat.le_trans (can_len hX) (by omega)⟩
    have hVq : V (can (X / v)) := V_le (Nat.div_le_self _ _) hVX
    have hsum : v + X / v < 18446744073709551616 ^ (n + 1) := by
      have := Nat.div_le_self X v
      rw [Nat.pow_succ]
      omega
    have hVs : V (can (v + X / v)) := ⟨can_ok _, Nat.le_trans (can_len hsum) (by omega)⟩
    have hne : v ≠ 0 := by omega
    have hVt : V (can ((v + X / v) / 2)) := V_le (Nat.div_le_self _ _) hVs
    rw [Root_L14, Root_b14, DivModF_ok hVX hs, Option.bind_some, hv, val_can, if_neg hne]
    dsimp only
    rw [qaddF_ok hs hVq, Option.bind_some, hv, val_can, qshrF_one hVs, Option.bind_some, val_can, nCmpF_U hVt.U hs.U, Option.bind_some, val_can, hv, cond_dec]
    by_cases c : (v + X / v) / 2 < v
    · have hneg : ¬ sgn ((v + X / v) / 2) v ≥ 0 := by rw [sgn, if_pos c]; omega
      have hnw := newton (X := X) hv0
      have hr1 : 1 ≤ isq X := by
        have := (isq_spec X).2
        rcases Nat.eq_zero_or_pos (isq X) with h | h
        · rw [h] at this
          omega
        · exact h
      obtain ⟨q, hq⟩ : ∃ q, X / v = q := ⟨_, rfl⟩
      rw [hq] at hnw c hneg hVt ⊢
      rw [if_neg hneg]
      exact ih _ c _ k (val_can _) (by omega) (by omega) hVt (by omega) (by omega)
    · have hpos : sgn ((v + X / v) / 2) v ≥ 0 := by
        rw [sgn, if_neg c]
        split <;> decide
      have he := root_end hv0 hr (Nat.le_of_not_lt c)
      have hj := root_just (X := X) hv0
      rw [if_pos hpos, nNormF_U hs.U, Option.bind_some, hv, cond_dec, he]
      by_cases c2 : X % v = 0
      · rw [c2, can_zero, if_pos (by simp), nCmpF_U hVq.U hs.U, Option.bind_some, val_can, hv]
        congr 2
        rw [sgn]
        by_cases c3 : X / v = v
        · have := hj.1 ⟨c2, c3⟩
          rw [c3, this]
          simp
        · have : ¬ v * v = X := fun h => c3 (hj.2 h).2
          rw [decide_eq_false this, decide_eq_false]
          split
          · decide
          · first | decide | (rw [if_neg c3]; decide)
      · have h1 : (can (X % v)).length ≠ 0 := fun h => c2 (can_nil.1 (List.length_eq_zero_iff.1 h))
        have : ¬ v * v = X := fun h => c2 (hj.2 h).1
        rw [if_neg (by omega), decide_eq_false this]
theorem isq_le_of {X s : Nat} (h : X < (s + 1) * (s + 1)) : isq X ≤ s := by
  have h1 := (isq_spec X).1
  rcases Nat.lt_or_ge s (isq X) with h2 | h2
  · have : (s + 1) * (s + 1) ≤ isq X * isq X := Nat.mul_le_mul h2 h2
    omega
  · exact h2
theorem Root_law {a : List Int} {t : List Int × Bool} (h : RootF a = some t) : ∃ k : Nat, Root_b0 (Root_L14 k) a = some t := by
  obtain ⟨ha, rfl⟩ := gu_eq.1 h
  have hV := ha.V
  have hla := ha.2
  have hVc := V_val hV
  have hlen : (can (val a)).length ≤ 17592186043904 := by rw [len_can_val ha.1]; have := sz_le a; omega
  have hXn := can_len_lt (val a)
  obtain ⟨X, hX⟩ : ∃ X, val a = X := ⟨_, rfl⟩
  have hNorm := nNormF_U hV.U
  rw [hX] at hlen hXn hVc hNorm
  rw [hX]
  obtain ⟨half, hh⟩ : ∃ h, h = (blen X + 1) / 2 := ⟨_, rfl⟩
  refine ⟨2 ^ half + 1, ?_⟩
  rw [Root_b0, hNorm, Option.bind_some, cond_dec]
  by_cases c : X = 0
  · rw [c, can_zero, if_pos (by simp)]
    rw [show isq 0 = 0 from rfl, can_zero]
    simp
  · have hne : (can X).length ≠ 0 := fun h => c (can_nil.1 (List.length_eq_zero_iff.1 h))
    have hbl : blen X ≤ 64 * (can X).length := by rw [blen_le_iff, ← pow64]; exact hXn
    have hbl0 := blen_pos c
    have e1 : addI .i64 ((blen X : Nat) : Int) 1 = ((blen X + 1 : Nat) : Int) := inc (by omega)
    have e2 : divI .i64 ((blen X + 1 : Nat) : Int) 2 = (half : Int) := by
      rw [divI, IntWalk.i64_quo _ _ (by omega)]
      omega
    have e3 : divI .i64 (half : Int) 64 = ((half / 64 : Nat) : Int) := tdiv64 (by omega)
    have e4 : remI (half : Int) 64 = ((half % 64 : Nat) : Int) := tmod64
    have e5 : addI .i64 ((half / 64 : Nat) : Int) 1 = ((half / 64 + 1 : Nat) : Int) := inc (by omega)
    have e6 := shlI_u64 1 (half % 64)
    have hp64 : (2 : Nat) ^ (half % 64) < 2 ^ 64 := Nat.pow_lt_pow_right (by omega) (by omega)
    rw [show (2 : Nat) ^ 64 = 18446744073709551616 from rfl] at hp64
    rw [Nat.one_mul, Nat.mod_eq_of_lt hp64] at e6
    rw [if_neg (by omega), nBitsF_ok hVc, Option.bind_some, val_can, e1, e2, e3, e4, e5, decide_eq_true (show (0 : Int) ≤ ((half / 64 + 1 : Nat) : Int) by omega), cond_t, cond_dec, if_pos (by omega), decide_eq_true (show (0 : Int) ≤ ((half % 64 : Nat) : Int) by omega), cond_t, Int.toNat_natCast, Int.toNat_natCast, inR (by simp), cond_t]
    rw [show shlI IntKind.u64 1 ((half % 64 : Nat) : Int) = ((2 ^ (half % 64) : Nat) : Int) from e6, List.replicate_succ', wrI_mid (by simp)]
    have hval : val (List.replicate (half / 64) 0 ++ [((2 ^ (half % 64) : Nat) : Int)]) = 2 ^ half := by
      rw [val_snoc, val_rep, List.length_replicate, Int.toNat_natCast, Nat.zero_add, pow64, ← Nat.pow_add, show 64 * (half / 64) + half % 64 = half from by omega]
    have hW : V (List.replicate (half / 64) 0 ++ [((2 ^ (half % 64) : Nat) : Int)]) := by
      refine ⟨W64.append.2 ⟨W64.rep _, by rw [W64.cons]; exact ⟨Wd.of hp64, W64.nil⟩⟩, ?_⟩
      rw [snoc_len, List.length_replicate]
      omega
    have hlt := blen_lt X
    have hle2 : (2 : Nat) ^ half ≤ 18446744073709551616 ^ (can X).length := by
      rw [pow64]
      exact Nat.pow_le_pow_right (by omega) (by omega)
    refine Root_loop c hXn (by omega) (2 ^ half) _ (2 ^ half + 1) hval (Nat.pow_pos (by omega)) hle2 hW (isq_le_of ?_) (by omega)
    have h1 : (2 : Nat) ^ blen X ≤ 2 ^ (half + half) := Nat.pow_le_pow_right (by omega) (by omega)
    rw [Nat.pow_add] at h1
    have h2 : (2 : Nat) ^ half * 2 ^ half ≤ (2 ^ half + 1) * (2 ^ half + 1) := Nat.mul_le_mul (by omega) (by omega)
    omega

/-! ### helpers -/
theorem bounded_loop {x : List Int} {n : Nat} (hn : n ≤ 17592186044416) : ∀ (suf pre : List Int) (k : Nat), x = pre ++ suf → pre.length ≤ n → suf.length + 1 ≤ k → bounded_L6 k x (n : Int) (pre.length : Int) pre = some (x.take n)
  | suf, pre, 0, _, _, hk => by omega
  | [], pre, k + 1, hx, hp, hk => by
    rw [List.append_nil] at hx
    subst hx
    rw [bounded_L6, bounded_b6, cond_dec, if_neg (by omega), List.take_of_length_le hp]
  | s :: suf, pre, k + 1, hx, hp, hk => by
    simp only [List.length_cons] at hk
    have hlen : x.length = pre.length + suf.length + 1 := by rw [hx, List.length_append, List.length_cons]; omega
    have hrd : rdI x (pre.length : Int) = s := by rw [hx]; exact rdI_mid rfl
    rw [bounded_L6, bounded_b6, cond_dec, if_pos (by omega), cond_dec]
    by_cases c : pre.length < n
    · rw [if_pos (by omega), inR (by omega), cond_t, hrd, snoc_len, cond_dec, if_pos (by omega), inc (by omega), ← snoc_len pre s]
      exact bounded_loop hn suf (pre ++ [s]) k (by rw [hx]; simp) (by rw [snoc_len]; omega) (by omega)
    · rw [if_neg (by omega), show n = pre.length from by omega, hx, List.take_left]
theorem bounded_law {a : List Int} {n : Int} {t : List Int} (h : boundedF (a, n) = some t) : ∃ k : Nat, bounded_b0 (bounded_L6 k) a n = some t := by
  obtain ⟨⟨ha, h0, h1⟩, rfl⟩ := gu_eq.1 h
  dsimp only at *
  obtain ⟨m, rfl⟩ := Int.eq_ofNat_of_zero_le h0
  refine ⟨a.length + 1, ?_⟩
  exact bounded_loop (n := m) (by omega) a [] _ rfl (Nat.zero_le _) (by omega)
theorem normal3_law {a : List Int} {t : Bool} (h : normalF a = some t) : ∃ k : Nat, normal3_b0 a = some t := by
  obtain ⟨h1, rfl⟩ := gu_eq.1 h
  refine ⟨0, ?_⟩
  rw [normal3_b0, cond_dec]
  by_cases c : a = []
  · subst c
    simp
  · have hl : 0 < a.length := List.length_pos_iff.2 c
    rw [if_neg (by omega), dec (by omega) hl, inR (by omega), cond_t, rdI_nat]
    simp [c]
theorem V_emp : V [] := ⟨W64.nil, by simp⟩
theorem sgn_eq_zero {a b : Nat} : sgn a b = 0 ↔ a = b := by
  rw [sgn]
  split
  · constructor
    · intro h; omega
    · intro h; omega
  · split
    · simp [*]
    · simp [*]
theorem zero_law {a : List Int} {t : Bool} (h : zeroF a = some t) : ∃ k : Nat, zero_b0 a = some t := by
  obtain ⟨h1, rfl⟩ := gu_eq.1 h
  refine ⟨0, ?_⟩
  rw [zero_b0, nCmpF_U h1.U V_emp.U, Option.bind_some, val_nil]
  congr 1
  rw [Bool.eq_iff_iff, decide_eq_true_eq, decide_eq_true_eq]
  exact sgn_eq_zero
theorem numF_ok {n : Int} (h : I64 n) : numF n = some n := gu_pos h
theorem bnd_I64 (v : Nat) : I64 (bnd v).2 := by
  unfold bnd I64
  split <;> dsimp only <;> omega
theorem bnd_V (v : Nat) : V (bnd v).1 := by
  unfold bnd
  split
  · rename_i h; exact V_can h
  · exact V_emp
theorem times_law {a b c : List Int} {t : List Int × Bool} (h : timesF (a, b, c) = some t) : ∃ k : Nat, times_b0 a b c = some t := by
  obtain ⟨⟨ha, hb, hc⟩, rfl⟩ := gu_eq.1 h
  dsimp only at *
  refine ⟨0, ?_⟩
  rw [times_b0, nMulF_V ha hb, Option.bind_some, nAddF_V (bnd_V _) hc, Option.bind_some, numF_ok (bnd_I64 _), Option.bind_some, numF_ok (bnd_I64 _), Option.bind_some, timesV, cond_dec]
  by_cases c1 : val a * val b < Lim
  · rw [if_pos c1, bnd_lt c1]
    dsimp only
    rw [if_pos rfl, val_can, okp]
    by_cases c2 : val a * val b + val c < Lim
    · rw [bnd_lt c2, if_pos c2]
      rfl
    · rw [bnd_ge' c2, if_neg c2]
      rfl
  · rw [if_neg c1, bnd_ge' c1]
    dsimp only
    rw [if_neg (by decide), val_nil, Nat.zero_add]
theorem can_word {n : Nat} (h0 : n ≠ 0) (h : n < 18446744073709551616) : can n = [(n : Int)] := by
  rw [can_pos h0, Nat.mod_eq_of_lt h, Nat.div_eq_of_lt h, can_zero]
theorem V_word {n : Nat} (h : n < 18446744073709551616) : V [(n : Int)] := ⟨by rw [W64.cons]; exact ⟨Wd.of h, W64.nil⟩, by simp⟩
theorem val_word (n : Nat) : val [(n : Int)] = n := by simp [val_cons, val_nil]
theorem live_law {t : Bool} (h : liveF PUnit.unit = some t) : ∃ k : Nat, live_b0 = some t := by
  obtain ⟨_, rfl⟩ := gu_eq.1 h
  refine ⟨0, ?_⟩
  have w : ∀ n : Nat, n < 18446744073709551616 → V [(n : Int)] := fun n hn => V_word hn
  have f1 : DivModF ([7], [2]) = some ([3], [1], 0) := by
    have := DivModF_ok (w 7 (by omega)) (w 2 (by omega))
    rw [val_word, val_word, if_neg (by omega), show 7 / 2 = 3 from rfl, show 7 % 2 = 1 from rfl, can_word (by omega) (by omega), can_word (by omega) (by omega)] at this
    exact this
  have f2 : RootF [49] = some ([7], true) := by
    have hL : L [((49 : Nat) : Int)] := ⟨(w 49 (by omega)).1, by simp⟩
    have e : isq 49 = 7 := isq_unique (by omega) (by omega)
    have : RootF [((49 : Nat) : Int)] = _ := gu_pos hL
    rw [val_word, e, can_word (by omega) (by omega)] at this
    exact this
  have f3 : qPowF ([3], 4) = some ([81], 0) := by
    have hI : I64 4 := by unfold I64; omega
    have hl : 3 ^ (4 : Int).toNat < Lim := small_Lim (show 3 ^ 4 < _ by decide)
    have : qPowF ([((3 : Nat) : Int)], 4) = _ := gu_pos ⟨w 3 (by omega), hI⟩
    rw [val_word, powF, if_neg (by decide), if_neg (by decide), if_neg (by omega), if_pos hl, show 3 ^ (4 : Int).toNat = 81 from rfl, can_word (by omega) (by omega)] at this
    exact this
  have f4 : GcdF ([12], [18]) = some [6] := by
    have := GcdF_ok (w 12 (by omega)) (w 18 (by omega))
    rw [val_word, val_word, show Nat.gcd 12 18 = 6 from by decide, can_word (by omega) (by omega)] at this
    exact this
  have f5 : nCmpF ([2], [1]) = some 1 := by
    have := nCmpF_U (w 2 (by omega)).U (w 1 (by omega)).U
    rw [val_word, val_word] at this
    exact this
  have f6 : numF 0 = some 0 := numF_ok (by unfold I64; omega)
  have f7 : ∀ n : Int, sameF ([n], [n]) = some true := fun n => by rw [sameF_ok (by simp)]; simp
  rw [live_b0, f1, Option.bind_some, f2, Option.bind_some, f3, Option.bind_some]
  dsimp only
  simp only [f6, f7, f4, f5, Option.bind_some, decide_true, cond_t]
theorem divides_law {a b : List Int} {t : Bool} (h : dividesF (a, b) = some t) : ∃ k : Nat, divides_b0 a b = some t := by
  obtain ⟨⟨ha, hb, h0⟩, rfl⟩ := gu_eq.1 h
  dsimp only at *
  refine ⟨0, ?_⟩
  rw [divides_b0, DivModF_ok hb ha, Option.bind_some, if_neg h0]
  dsimp only
  rw [numF_ok (by unfold I64; omega), Option.bind_some, decide_eq_true rfl, cond_t]
  congr 1
  rw [Bool.eq_iff_iff, decide_eq_true_eq, decide_eq_true_eq]
  constructor
  · intro h
    exact can_nil.1 (List.length_eq_zero_iff.1 (by omega))
  · intro h
    rw [h, can_zero]
    rfl
theorem within_law {a b t : Int} (h : withinF (a, b) = some t) : ∃ k : Nat, within_b0 a b = some t := by
  obtain ⟨⟨h1, h2, h3⟩, rfl⟩ := gu_eq.1 h
  dsimp only at *
  have e1 : addI .i64 b 1 = b + 1 := addI_i64 (by omega)
  unfold I64 at h1
  obtain ⟨k, hk⟩ := into_law (a := a) (b := b + 1) (t := a % (b + 1)) (gu_pos ⟨by show 0 < b + 1; omega, by show b + 1 < 4294967296; omega, h1.1, h1.2⟩)
  refine ⟨0, ?_⟩
  have hr := Int.tmod_lt_of_pos a (show 0 < b + 1 by omega)
  have hr2 : -(b + 1) < remI a (b + 1) := by
    unfold remI
    have := Int.lt_tmod_of_pos a (show 0 < b + 1 by omega)
    omega
  rw [into_b0, cond_ndec, if_neg (by omega), cond_dec] at hk
  rw [within_b0, e1, cond_ndec, if_neg (by omega), cond_dec]
  change remI a (b + 1) < b + 1 at hr
  by_cases c : remI a (b + 1) < 0
  · rw [if_pos c, addI_i64 (by omega)] at hk
    rw [if_pos c, addI_i64 (a := remI a (b + 1)) (by omega), addI_i64 (by omega), ← hk]
    congr 1
    omega
  · rw [if_neg c] at hk
    rw [if_neg c, hk]
theorem Gcd_ok : CtrOk Go.Proofs.Try.prog 79 (mkF [.sl (.int .u64), .sl (.int .u64)] [.sl (.int .u64)] GcdF) := by
  refine mkF_ok (c := bodyOf Go.Proofs.Try.f79) (tab := S.tab) (cts := [(32, mkZ [.sl (.int .u64)] .u64 nNormF), (75, mkF [.sl (.int .u64), .sl (.int .u64)] [.sl (.int .u64), .sl (.int .u64), .int .i64] DivModF)]) (res := [4]) tab_ok hm ⟨nNormV_ok, DivMod_ok, trivial⟩ Go.Proofs.Try.func79 (by kernel_rfl) (by kernel_rfl) (by kernel_rfl) (by kernel_rfl) (by kernel_rfl) ?_
  rintro ⟨a, b⟩ t h
  obtain ⟨k, hk⟩ := Gcd_law h
  exact ⟨Gcd_h, 3000, k, (Gcd_ev k a b).trans hk⟩

theorem Root_ok : CtrOk Go.Proofs.Try.prog 83 (mkF [.sl (.int .u64)] [.sl (.int .u64), .bool] RootF) := by
  refine mkF_ok (c := bodyOf Go.Proofs.Try.f83) (tab := S.tab) (cts := [(32, mkZ [.sl (.int .u64)] .u64 nNormF), (43, mkF [.sl (.int .u64)] [.int .i64] nBitsF), (75, mkF [.sl (.int .u64), .sl (.int .u64)] [.sl (.int .u64), .sl (.int .u64), .int .i64] DivModF), (133, mkF [.sl (.int .u64), .sl (.int .u64)] [.sl (.int .u64)] qaddF), (132, mkZ [.sl (.int .u64), .int .i64] .u64 qshrF), (33, mkF [.sl (.int .u64), .sl (.int .u64)] [.int .i64] nCmpF)]) (res := [2, 3]) tab_ok hm ⟨nNormV_ok, nBits_ok, DivMod_ok, qadd_ok, qshrV_ok, nCmp_ok, trivial⟩ Go.Proofs.Try.func83 (by kernel_rfl) (by kernel_rfl) (by kernel_rfl) (by kernel_rfl) (by kernel_rfl) ?_
  rintro a t h
  obtain ⟨k, hk⟩ := Root_law h
  exact ⟨Root_h, 3000, k, (Root_ev k a).trans hk⟩

theorem Lowest_ok : CtrOk Go.Proofs.Try.prog 81 (mkF [.sl (.int .u64), .sl (.int .u64)] [.sl (.int .u64), .sl (.int .u64)] LowestF) := by
  refine mkF_ok (c := bodyOf Go.Proofs.Try.f81) (tab := S.tab) (cts := [(79, mkF [.sl (.int .u64), .sl (.int .u64)] [.sl (.int .u64)] GcdF), (75, mkF [.sl (.int .u64), .sl (.int .u64)] [.sl (.int .u64), .sl (.int .u64), .int .i64] DivModF)]) (res := [4, 5]) tab_ok hm ⟨Gcd_ok, DivMod_ok, trivial⟩ Go.Proofs.Try.func81 (by kernel_rfl) (by kernel_rfl) (by kernel_rfl) (by kernel_rfl) (by kernel_rfl) ?_
  rintro ⟨a, b⟩ t h
  obtain ⟨k, hk⟩ := Lowest_law h
  exact ⟨Lowest_h, 3000, k, (Lowest_ev k a b).trans hk⟩

theorem bounded_ok : CtrOk Go.Proofs.Try.prog 86 (mkF [.sl (.int .u64), .int .i64] [.sl (.int .u64)] boundedF) := by
  refine mkF_ok (c := bodyOf Go.Proofs.Try.f86) (tab := S.tab) (cts := []) (res := [4]) tab_ok hm trivial Go.Proofs.Try.func86 (by kernel_rfl) (by kernel_rfl) (by kernel_rfl) (by kernel_rfl) (by kernel_rfl) ?_
  rintro ⟨a, b⟩ t h
  obtain ⟨k, hk⟩ := bounded_law h
  exact ⟨bounded_h, 3000, k, (bounded_ev k a b).trans hk⟩

theorem normal3_ok : CtrOk Go.Proofs.Try.prog 90 (mkF [.sl (.int .u64)] [.bool] normalF) := by
  refine mkF_ok (c := bodyOf Go.Proofs.Try.f90) (tab := S.tab) (cts := []) (res := [2]) tab_ok hm trivial Go.Proofs.Try.func90 (by kernel_rfl) (by kernel_rfl) (by kernel_rfl) (by kernel_rfl) (by kernel_rfl) ?_
  rintro a t h
  obtain ⟨k, hk⟩ := normal3_law h
  exact ⟨normal3_h, 3000, k, (normal3_ev k a).trans hk⟩

theorem zero_ok : CtrOk Go.Proofs.Try.prog 88 (mkF [.sl (.int .u64)] [.bool] zeroF) := by
  refine mkF_ok (c := bodyOf Go.Proofs.Try.f88) (tab := S.tab) (cts := [(33, mkF [.sl (.int .u64), .sl (.int .u64)] [.int .i64] nCmpF)]) (res := [2]) tab_ok hm ⟨nCmp_ok, trivial⟩ Go.Proofs.Try.func88 (by kernel_rfl) (by kernel_rfl) (by kernel_rfl) (by kernel_rfl) (by kernel_rfl) ?_
  rintro a t h
  obtain ⟨k, hk⟩ := zero_law h
  exact ⟨zero_h, 3000, k, (zero_ev k a).trans hk⟩

theorem times_ok : CtrOk Go.Proofs.Try.prog 89 (mkF [.sl (.int .u64), .sl (.int .u64), .sl (.int .u64)] [.sl (.int .u64), .bool] timesF) := by
  refine mkF_ok (c := bodyOf Go.Proofs.Try.f89) (tab := S.tab) (cts := [(38, mkF [.sl (.int .u64), .sl (.int .u64)] [.sl (.int .u64), .int .i64] nMulF), (40, mkF [.sl (.int .u64), .sl (.int .u64)] [.sl (.int .u64), .int .i64] nAddF), (49, mkF [.int .i64] [.int .i64] numF)]) (res := [6, 7]) tab_ok hm ⟨nMul_ok, nAdd_ok, num_ok, trivial⟩ Go.Proofs.Try.func89 (by kernel_rfl) (by kernel_rfl) (by kernel_rfl) (by kernel_rfl) (by kernel_rfl) ?_
  rintro ⟨a, b, c⟩ t h
  obtain ⟨k, hk⟩ := times_law h
  exact ⟨times_h, 3000, k, (times_ev k a b c).trans hk⟩

theorem live_ok : CtrOk Go.Proofs.Try.prog 85 (mkF [] [.bool] liveF) := by
  refine mkF_ok (c := bodyOf Go.Proofs.Try.f85) (tab := S.tab) (cts := [(75, mkF [.sl (.int .u64), .sl (.int .u64)] [.sl (.int .u64), .sl (.int .u64), .int .i64] DivModF), (83, mkF [.sl (.int .u64)] [.sl (.int .u64), .bool] RootF), (46, mkF [.sl (.int .u64), .int .i64] [.sl (.int .u64), .int .i64] qPowF), (48, mkF [.sl (.int .u64), .sl (.int .u64)] [.bool] sameF), (49, mkF [.int .i64] [.int .i64] numF), (79, mkF [.sl (.int .u64), .sl (.int .u64)] [.sl (.int .u64)] GcdF), (33, mkF [.sl (.int .u64), .sl (.int .u64)] [.int .i64] nCmpF)]) (res := [0]) tab_ok hm ⟨DivMod_ok, Root_ok, qPow_ok, same3_ok, num_ok, Gcd_ok, nCmp_ok, trivial⟩ Go.Proofs.Try.func85 (by kernel_rfl) (by kernel_rfl) (by kernel_rfl) (by kernel_rfl) (by kernel_rfl) ?_
  rintro ⟨⟩ t h
  obtain ⟨k, hk⟩ := live_law h
  exact ⟨live_h, 3000, k, (live_ev k ).trans hk⟩

theorem divides_ok : CtrOk Go.Proofs.Try.prog 92 (mkF [.sl (.int .u64), .sl (.int .u64)] [.bool] dividesF) := by
  refine mkF_ok (c := bodyOf Go.Proofs.Try.f92) (tab := S.tab) (cts := [(75, mkF [.sl (.int .u64), .sl (.int .u64)] [.sl (.int .u64), .sl (.int .u64), .int .i64] DivModF), (49, mkF [.int .i64] [.int .i64] numF)]) (res := [4]) tab_ok hm ⟨DivMod_ok, num_ok, trivial⟩ Go.Proofs.Try.func92 (by kernel_rfl) (by kernel_rfl) (by kernel_rfl) (by kernel_rfl) (by kernel_rfl) ?_
  rintro ⟨a, b⟩ t h
  obtain ⟨k, hk⟩ := divides_law h
  exact ⟨divides_h, 3000, k, (divides_ev k a b).trans hk⟩

theorem within_ok : CtrOk Go.Proofs.Try.prog 91 (mkF [.int .i64, .int .i64] [.int .i64] withinF) := by
  refine mkF_ok (c := bodyOf Go.Proofs.Try.f91) (tab := S.tab) (cts := []) (res := [4]) tab_ok hm trivial Go.Proofs.Try.func91 (by kernel_rfl) (by kernel_rfl) (by kernel_rfl) (by kernel_rfl) (by kernel_rfl) ?_
  rintro ⟨a, b⟩ t h
  obtain ⟨k, hk⟩ := within_law h
  exact ⟨within_h, 3000, k, (within_ev k a b).trans hk⟩

end Go.RX.S
