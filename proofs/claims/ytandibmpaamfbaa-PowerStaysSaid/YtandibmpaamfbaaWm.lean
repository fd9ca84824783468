/- radix: numbers as decimal digits; powers of five and ten. -/
import Derived.Test.YtandibmpaamfbaaWl
import Derived.Test.YtandibmpaamfbaaTh
set_option linter.unusedVariables false
set_option linter.unusedSimpArgs false
namespace Go.RX.S
open Go Go.RX

theorem based_law {a : Int} {t : Bool} (h : basedF a = some t) : ∃ k : Nat, based_b0 a = some t := by
  obtain ⟨_, rfl⟩ := gu_eq.1 h
  refine ⟨0, ?_⟩
  rw [based_b0, cond_dec]
  by_cases c : a ≥ 2
  · rw [if_pos c]
    congr 1
    rw [Bool.eq_iff_iff, decide_eq_true_eq, decide_eq_true_eq]
    omega
  · rw [if_neg c]
    congr 1
    rw [eq_comm, decide_eq_false_iff_not]
    omega
theorem chunk_law {a : Int} {t : Int × Int} (h : chunkF a = some t) : ∃ k : Nat, chunk_b0 (chunk_L4 k) a = some t := by
  obtain ⟨ha, rfl⟩ := gu_eq.1 h
  refine ⟨20, ?_⟩
  rcases ha with rfl | rfl
  · kernel_rfl
  · kernel_rfl
theorem step4_law {a : Int} {t : Int × Int} (h : step4F a = some t) : ∃ k : Nat, step4_b0 (step4_L6 k) a = some t := by
  obtain ⟨rfl, rfl⟩ := gu_eq.1 h
  refine ⟨10, ?_⟩
  kernel_rfl

/-! ### digits -/
/-- So many digits of ten. -/
def dg : Nat → Nat → List Int
  | 0, _ => []
  | n + 1, v => ((v % 10 : Nat) : Int) :: dg n (v / 10)
theorem dg_len : ∀ n v, (dg n v).length = n
  | 0, _ => rfl
  | n + 1, v => by simp [dg, dg_len n]
theorem dg_ok : ∀ n v, Dg 10 (dg n v)
  | 0, _ => Dg.nil
  | n + 1, v => by
    rw [dg, Dg.cons]
    exact ⟨⟨by omega, by omega⟩, dg_ok n _⟩
theorem dg_val : ∀ n v, v < 10 ^ n → gval 10 (dg n v) = v
  | 0, v, h => by simp at h; subst h; rfl
  | n + 1, v, h => by
    rw [Nat.pow_succ] at h
    rw [dg, gval_cons, Int.toNat_natCast, dg_val n (v / 10) (by omega)]
    omega
/-- Digits as bytes. -/
def u48 (l : List Int) : List Int := l.map (· + 48)
theorem u48_len (l : List Int) : (u48 l).length = l.length := by simp [u48]
theorem u48_append (a b : List Int) : u48 (a ++ b) = u48 a ++ u48 b := by simp [u48]
theorem u48_snoc (a : List Int) (x : Int) : u48 (a ++ [x]) = u48 a ++ [x + 48] := by simp [u48]
theorem DG_at {i : Nat} (h : i < 10) : byteAt (strOfI [48, 49, 50, 51, 52, 53, 54, 55, 56, 57, 97, 98, 99, 100, 101, 102, 103, 104, 105, 106, 107, 108, 109, 110, 111, 112, 113, 114, 115, 116, 117, 118, 119, 120, 121, 122]) (i : Int) = (i : Int) + 48 := by
  have : i = 0 ∨ i = 1 ∨ i = 2 ∨ i = 3 ∨ i = 4 ∨ i = 5 ∨ i = 6 ∨ i = 7 ∨ i = 8 ∨ i = 9 := by omega
  rcases this with rfl | rfl | rfl | rfl | rfl | rfl | rfl | rfl | rfl | rfl <;> rfl
theorem tmod_nat (a b : Nat) : remI (a : Int) (b : Int) = ((a % b : Nat) : Int) := by
  rw [remI, Int.tmod_eq_emod_of_nonneg (by omega)]
  omega
theorem tdiv_u64 {a b : Nat} (ha : a < 18446744073709551616) : divI .u64 (a : Int) (b : Int) = ((a / b : Nat) : Int) := by
  have : a / b ≤ a := Nat.div_le_self _ _
  rw [divI, IntKind.wrap_u64, Int.tdiv_eq_ediv_of_nonneg (by omega), ← Int.natCast_ediv]
  generalize a / b = q at *
  omega
theorem cv10 : cvI .u64 10 = 10 := cvI_u64 (by omega)
/-- Zeros at the end go. -/
theorem sz_snoc0 (l : List Int) : sz (l ++ [0]) = sz l := by
  exact sz_snoc_zero l
theorem written_trim : ∀ (n k : Nat) (P : List Int), P.length = n → Dg 10 P → n ≤ 100000000000000 → n + 1 ≤ k → written_L24 k (u48 P) = some (u48 (P.take (sz P)))
  | n, 0, P, _, _, _, hk => by omega
  | n, k + 1, P, hn, hP, hb, hk => by
    rw [written_L24, written_b24, cond_dec, u48_len, hn]
    rcases List.eq_nil_or_concat P with rfl | ⟨Q, x, rfl⟩
    · rw [if_neg (by simp at hn; omega)]
      simp [u48, sz]
    · rw [List.concat_eq_append] at hn hP ⊢
      rw [Dg.append, Dg.cons] at hP
      rw [snoc_len] at hn
      have hx := hP.2.1
      have e1 : subI .i64 ((n : Nat) : Int) 1 = (Q.length : Int) := by rw [subI_i64 (by omega)]; omega
      have e2 : rdN (u48 (Q ++ [x])) Q.length = x + 48 := by rw [u48_snoc]; exact rdN_mid (by rw [u48_len])
      rw [if_pos (by omega), e1, inR (by omega), cond_t, Int.toNat_natCast, e2, cond_dec]
      by_cases c : x = 0
      · subst c
        rw [if_pos (by omega), decide_eq_true (show (0 : Int) ≤ (Q.length : Int) by omega), cond_t, decide_eq_true (show (Q.length : Int) ≤ (n : Int) by omega), cond_t, Int.sub_zero, Int.toNat_natCast, u48_snoc, List.take_left' (by rw [u48_len]), written_trim Q.length k Q rfl hP.1 (by omega) (by omega), sz_snoc0]
        congr 2
        rw [List.take_append_of_le_length (sz_le Q)]
      · rw [if_neg (by omega), sz_snoc_ne c, List.take_of_length_le (by rw [snoc_len]; omega)]
theorem written_inner {c : Int} {q : List Int} {res : Option (List Int)} : ∀ (n i r k K : Nat) (P : List Int), i + n = 19 → r < 18446744073709551616 → P.length + n ≤ 100000000000000 → (∀ k, K ≤ k → written_L8 k q 10 c 19 (u48 (P ++ dg n r)) = res) → K + n + 1 ≤ k → written_L14 k 10 c 19 q (r : Int) 19 (i : Int) (u48 P) = res
  | n, i, r, 0, K, P, _, _, _, _, hk => by omega
  | 0, i, r, k + 1, K, P, hi, hr, hl, hres, hk => by
    rw [written_L14, written_b14, cond_dec, if_neg (by omega)]
    rw [dg, List.append_nil] at hres
    exact hres k (by omega)
  | n + 1, i, r, k + 1, K, P, hi, hr, hl, hres, hk => by
    have e1 := tmod_nat r 10
    have e2 := tdiv_u64 (b := 10) hr
    rw [show ((10 : Nat) : Int) = 10 from rfl] at e1 e2
    have hm : r % 10 < 10 := Nat.mod_lt _ (by omega)
    rw [written_L14, written_b14, cond_dec, if_pos (by omega), cv10, e1, e2, DG_at hm, inR (show r % 10 < 36 by omega), cond_t, decide_eq_false (show ¬ (10 : Int) = 0 by decide), ← u48_snoc, cond_dec, if_pos (by rw [u48_len, snoc_len]; omega), inc (by omega)]
    rw [Bool.not_false, cond_t, cond_t]
    refine written_inner n (i + 1) (r / 10) k K (P ++ [((r % 10 : Nat) : Int)]) (by omega) (by omega) (by rw [snoc_len]; omega) (fun k' hk' => ?_) (by omega)
    rw [List.append_assoc]
    exact hres k' hk'
theorem len_of_val {P : List Int} {v X n : Nat} (hv : v ≠ 0) (h : 10 ^ P.length * v ≤ X) (hX : X < 18446744073709551616 ^ n) : P.length ≤ 64 * n := by
  rcases Nat.lt_or_ge (64 * n) P.length with h1 | h1
  · exfalso
    have h2 : 10 ^ P.length ≤ 10 ^ P.length * v := Nat.le_mul_of_pos_right _ (by omega)
    have h3 : (2 : Nat) ^ P.length ≤ 10 ^ P.length := Nat.pow_le_pow_left (by omega) _
    have h4 : (2 : Nat) ^ (64 * n) ≤ 2 ^ P.length := Nat.pow_le_pow_right (by omega) (by omega)
    rw [pow64] at hX
    omega
  · exact h1
theorem ten19 : (10 : Nat) ^ 19 = 10000000000000000000 := by decide
theorem written_loop {n : Nat} (hn : n ≤ 100000000) {X : Nat} (hX : X < 18446744073709551616 ^ n) : ∀ (v k : Nat) (P : List Int), Dg 10 P → V (can v) → gval 10 P + 10 ^ P.length * v = X → P.length ≤ 64 * n + 19 → v * 21 + (64 * n + 19) + 2 ≤ k →
    written_L8 k (can v) 10 10000000000000000000 19 (u48 P) = some (u48 (gcan 10 X)) := by
  intro v
  induction v using Nat.strongRecOn with
  | _ v ih =>
    intro k P hP hV hval hl hk
    obtain ⟨k, rfl⟩ : ∃ j, k = j + 1 := ⟨k - 1, by omega⟩
    rw [written_L8, written_b8, cond_dec]
    by_cases c : v = 0
    · rw [c, can_zero, if_neg (by simp), written_trim P.length k P rfl hP (by omega) (by omega), ← gcan_val (by omega) hP]
      rw [c, Nat.mul_zero, Nat.add_zero] at hval
      rw [hval]
    · have hne : (can v).length ≠ 0 := fun h => c (can_nil.1 (List.length_eq_zero_iff.1 h))
      have hq := qSmallF_pos (x := can v) (d := 10000000000000000000) hV (by omega) (by omega)
      rw [show ((10000000000000000000 : Nat) : Int) = 10000000000000000000 from rfl, val_can] at hq
      have hpl := len_of_val c (by omega : 10 ^ P.length * v ≤ X) hX
      have hlt : v / 10000000000000000000 < v := Nat.div_lt_self (by omega) (by omega)
      have hml := Nat.mod_lt v (show 0 < 10000000000000000000 by omega)
      rw [if_pos (by omega), hq, Option.bind_some]
      dsimp only
      refine written_inner 19 0 (v % 10000000000000000000) k (v / 10000000000000000000 * 21 + (64 * n + 19) + 2) P (by omega) (by omega) (by omega) (fun k' hk' => ?_) (by omega)
      refine ih _ hlt k' _ (Dg.append.2 ⟨hP, dg_ok _ _⟩) (V_le (Nat.div_le_self _ _) hV) ?_ (by rw [List.length_append, dg_len]; omega) hk'
      rw [gval_append, dg_val 19 _ (by rw [ten19]; omega), List.length_append, dg_len, Nat.pow_add, ten19]
      have := Nat.div_add_mod v 10000000000000000000
      generalize v / 10000000000000000000 = a at *
      generalize v % 10000000000000000000 = b at *
      rw [← hval, ← this]
      grind
theorem written_law {a : List Int} {b : Int} {t : List Int} (h : writtenF (a, b) = some t) : ∃ k : Nat, written_b0 (written_L8 k) (written_L14 k) (written_L24 k) a b = some t := by
  obtain ⟨⟨ha, hl, hb⟩, rfl⟩ := gu_eq.1 h
  dsimp only at *
  subst hb
  have hc : chunkF 10 = some (10000000000000000000, 19) := by
    rw [chunkF, gu_pos (.inl rfl)]
    rfl
  refine ⟨val a * 21 + (64 * a.length + 19) + 2, ?_⟩
  rw [written_b0, hc, Option.bind_some, nNormF_U ha.U, Option.bind_some]
  exact written_loop hl (val_lt ha.1) (val a) _ [] Dg.nil (V_val ha) (by simp [gval]) (by simp) (Nat.le_refl _)

/-! ### turned about -/
theorem splice_all (l m : List Int) (h : m.length = l.length) : splice l 0 m = m := by
  rw [splice, List.take_zero, List.nil_append, Nat.zero_add, h, List.drop_length, List.append_nil]
theorem two_ends {M : List Int} (h : 2 ≤ M.length) : ∃ x M' y, M = x :: (M' ++ [y]) := by
  cases M with
  | nil => simp at h
  | cons x r =>
    rcases List.eq_nil_or_concat r with rfl | ⟨Q, y, rfl⟩
    · simp at h
    · exact ⟨x, Q, y, by rw [List.concat_eq_append]⟩
theorem set_at {p s : List Int} {x y : Int} {i : Nat} (h : p.length = i) : wrI (p ++ x :: s) i y = p ++ y :: s := wrI_mid h
theorem revy_loop (pre post : List Int) (o n : Nat) (hn : n ≤ 1000000000000) (ho : pre.length = o) : ∀ (m k : Nat) (A M B : List Int), M.length ≤ m → A.length = B.length → A.length + M.length + B.length = n → m + 1 ≤ k →
    revy_L2 k o n (A.length : Int) ((n : Int) - 1 - (A.length : Int)) (pre ++ (B ++ M ++ A) ++ post) = some (pre ++ (B ++ M.reverse ++ A) ++ post, ())
  | m, 0, A, M, B, _, _, _, hk => by omega
  | m, k + 1, A, M, B, hm, hAB, hl, hk => by
    rw [revy_L2, revy_b2, cond_dec]
    by_cases c : 2 ≤ M.length
    · obtain ⟨x, M', y, rfl⟩ := two_ends c
      simp only [List.length_cons, List.length_append, List.length_nil] at hm hl c
      obtain ⟨m, rfl⟩ : ∃ j, m = j + 2 := ⟨m - 2, by omega⟩
      have e1 : (n : Int) - 1 - (A.length : Int) = ((A.length + M'.length + 1 : Nat) : Int) := by omega
      have e2 : subI .i64 ((A.length + M'.length + 1 : Nat) : Int) 1 = (n : Int) - 1 - ((A.length + 1 : Nat) : Int) := by rw [subI_i64 (by omega)]; omega
      rw [if_pos (by omega), e1, inR (by omega), inR (by omega)]
      simp only [cond_t, Int.toNat_natCast]
      have s1 : pre ++ (B ++ x :: (M' ++ [y]) ++ A) ++ post = (pre ++ B) ++ x :: (M' ++ [y] ++ A ++ post) := by simp
      have s2 : pre ++ (B ++ x :: (M' ++ [y]) ++ A) ++ post = (pre ++ B ++ x :: M') ++ y :: (A ++ post) := by simp
      have r1 : rdN (pre ++ (B ++ x :: (M' ++ [y]) ++ A) ++ post) (o + A.length) = x := by
        rw [s1]
        exact rdN_mid (by simp [ho, hAB])
      have r2 : rdN (pre ++ (B ++ x :: (M' ++ [y]) ++ A) ++ post) (o + (A.length + M'.length + 1)) = y := by
        rw [s2]
        exact rdN_mid (by simp [ho, hAB]; omega)
      have w1 : wrI (pre ++ (B ++ x :: (M' ++ [y]) ++ A) ++ post) (o + A.length) y = (pre ++ B ++ y :: M') ++ y :: (A ++ post) := by
        rw [s1, wrI_mid (by simp [ho, hAB])]
        simp
      have w2 : wrI ((pre ++ B ++ y :: M') ++ y :: (A ++ post)) (o + (A.length + M'.length + 1)) x = pre ++ ((B ++ [y]) ++ M' ++ (x :: A)) ++ post := by
        rw [wrI_mid (by simp [ho, hAB]; omega)]
        simp
      rw [r1, r2, w1, w2, inc (by omega), e2]
      have ih := revy_loop pre post o n hn ho m k (x :: A) M' (B ++ [y]) (by omega) (by simp [hAB]) (by simp; omega) (by omega)
      rw [List.length_cons] at ih
      rw [ih]
      simp
    · rw [if_neg (by omega)]
      have : M.reverse = M := by
        match M, c with
        | [], _ => rfl
        | [x], _ => rfl
        | _ :: _ :: _, c => simp at c
      rw [this]
theorem revy_law {l : List Int} {u : Unit} {l' : List Int} {t : Unit} (h : revyF (l, u) = some (l', t)) : l'.length = l.length ∧ ∀ pre post : List Int, ∃ k : Nat, revy_b0 (revy_L2 k) pre.length l.length (pre ++ l ++ post) = some (pre ++ l' ++ post, t) := by
  obtain ⟨hl, he⟩ := gu_eq.1 h
  dsimp only at *
  simp only [Prod.mk.injEq] at he
  obtain ⟨rfl, _⟩ := he
  refine ⟨by simp, fun pre post => ⟨l.length + 1, ?_⟩⟩
  have := revy_loop pre post pre.length l.length hl rfl l.length (l.length + 1) [] l [] (Nat.le_refl _) rfl (by simp) (by omega)
  simp only [List.nil_append, List.append_nil, List.length_nil] at this
  rw [revy_b0, subI_i64 (by omega)]
  simpa using this

/-! ### texts -/
theorem lim_len {v : Nat} : (can v).length ≤ 4096 ↔ v < Lim := by
  rw [← lw_eq]
  exact can_len_iff lw v
theorem Text_law {a : List Int} {b : Int} {t : ByteArray × Int} (h : TextF (a, b) = some t) : ∃ k : Nat, Text_b0 a b = some t := by
  obtain ⟨⟨ha, hb⟩, rfl⟩ := gu_eq.1 h
  dsimp only at *
  subst hb
  refine ⟨0, ?_⟩
  have h1 : basedF 10 = some true := by
    rw [basedF, gu_pos (by unfold I64; omega)]
    rfl
  rw [Text_b0, h1, Option.bind_some, Bool.not_true, cond_f, nNormF_U ha.U, Option.bind_some, cond_dec]
  have hll := lim_len (v := val a)
  by_cases c : val a < Lim
  · rw [if_neg (by omega), if_pos c, cond_dec]
    by_cases c0 : val a = 0
    · rw [c0, can_zero, if_pos (by simp)]
      rfl
    · have hne : (can (val a)).length ≠ 0 := fun h => c0 (can_nil.1 (List.length_eq_zero_iff.1 h))
      have hw : writtenF (can (val a), 10) = some (u48 (gcan 10 (val a))) := by
        rw [writtenF, gu_pos ⟨V_can c, by show (can (val a)).length ≤ _; omega, rfl⟩, val_can]
        rfl
      have hlen : (u48 (gcan 10 (val a))).length ≤ 1000000000000 := by
        rw [u48_len]
        obtain ⟨E, hE⟩ : ∃ E, E = 1000000 := ⟨_, rfl⟩
        have h2 : val a < 10 ^ E := by
          refine Nat.lt_of_lt_of_le c ?_
          rw [Lim_pow]
          refine Nat.le_trans (Nat.pow_le_pow_left (show 2 ≤ 10 by omega) _) (Nat.pow_le_pow_right (by omega) ?_)
          rw [lw_eq]
          omega
        have := gcan_len (show 2 ≤ 10 by omega) h2
        omega
      have hr : revyF (u48 (gcan 10 (val a)), ()) = some ((u48 (gcan 10 (val a))).reverse, ()) := gu_pos hlen
      rw [if_neg (by omega), hw, Option.bind_some, cond_dec, if_pos (show (0 : Nat) + _ ≤ _ from Nat.le_of_eq (Nat.zero_add _)), List.take_length, hr, Option.bind_some]
      dsimp only
      rw [splice_all _ _ (by simp), dec10, if_neg c0]
      rfl
  · rw [if_pos (by omega), if_neg c]
theorem strOfI_size (l : List Int) : (strOfI l).size = l.length := by
  show ((l.map fun n => UInt8.ofNat n.toNat).toArray).size = l.length
  simp
theorem TextF_ok {x : List Int} (hx : V x) (h : val x < Lim) : TextF (x, 10) = some (strOfI (dec10 (val x)), 0) := by
  rw [TextF, gu_pos ⟨hx, rfl⟩, if_pos h]
theorem Count_law {a : List Int} {t : Int} (h : CountF a = some t) : ∃ k : Nat, Count_b0 a = some t := by
  obtain ⟨⟨ha, hl⟩, rfl⟩ := gu_eq.1 h
  refine ⟨0, ?_⟩
  rw [Count_b0, TextF_ok ha hl, Option.bind_some, strOfI_size]
/-! ### powers -/
theorem V5 : V [5] := V_lit (by decide) (by decide)
theorem Five_law {a : Int} {t : List Int × Int} (h : Five5F a = some t) : ∃ k : Nat, Five_b0 a = some t := by
  obtain ⟨ha, rfl⟩ := gu_eq.1 h
  refine ⟨0, ?_⟩
  have hp : qPowF ([5], a) = some (powF 5 a) := by
    rw [qPowF, gu_pos ⟨V5, ha⟩]
    rfl
  rw [Five_b0, cond_dec]
  by_cases c : 112899 < a
  · rw [if_pos (by omega), if_pos c]
  · rw [if_neg (by omega), if_neg c, hp, Option.bind_some]
theorem five_lt {n : Nat} (h : n ≤ 2000) : 5 ^ n < 2 ^ (3 * n + 1) := by
  rw [Nat.pow_succ, Nat.pow_mul]
  have : 5 ^ n ≤ (2 ^ 3) ^ n := Nat.pow_le_pow_left (by omega) n
  have : 0 < (2 ^ 3) ^ n := Nat.pow_pos (by omega)
  omega
theorem pow_Lim {v n : Nat} (h : v < 2 ^ n) (hn : n ≤ 262144) : v < Lim := by
  rw [Lim_pow]
  refine Nat.lt_of_lt_of_le h (Nat.pow_le_pow_right (by omega) ?_)
  rw [lw_eq]
  omega
theorem five_Lim {n : Nat} (h : n ≤ 2000) : 5 ^ n < Lim := pow_Lim (five_lt h) (by omega)
theorem Five5F_ok {n : Nat} (h : n ≤ 2000) : Five5F (n : Int) = some (can (5 ^ n), 0) := by
  rw [Five5F, gu_pos (by unfold I64; omega), if_neg (by omega), powF_small (by omega) (by rw [Int.toNat_natCast]; exact five_Lim h), Int.toNat_natCast]
theorem Ten_law {a : Int} {t : List Int × Int} (h : TenF a = some t) : ∃ k : Nat, Ten_b0 a = some t := by
  obtain ⟨⟨h0, h1⟩, rfl⟩ := gu_eq.1 h
  obtain ⟨n, rfl⟩ := Int.eq_ofNat_of_zero_le h0
  simp only [Int.ofNat_eq_natCast, Int.toNat_natCast] at *
  refine ⟨0, ?_⟩
  have hn : n ≤ 2000 := by omega
  have hb := (blen_le_iff (3 * n + 1) (5 ^ n)).2 (five_lt hn)
  have hs := nShlF_ok (x := can (5 ^ n)) (V_can (five_Lim hn)) (n := n) (by rw [val_can]; omega)
  rw [val_can] at hs
  rw [Ten_b0, cond_dec, if_neg (by omega), Five5F_ok hn, Option.bind_some]
  dsimp only
  rw [decide_eq_true rfl, Bool.not_true, cond_f, hs, Option.bind_some, ← Nat.mul_pow]
theorem based_ok : CtrOk Go.Proofs.Try.prog 159 (mkF [.int .i64] [.bool] basedF) := by
  refine mkF_ok (c := bodyOf Go.Proofs.Try.f159) (tab := S.tab) (cts := []) (res := [2]) tab_ok hm trivial Go.Proofs.Try.func159 (by kernel_rfl) (by kernel_rfl) (by kernel_rfl) (by kernel_rfl) (by kernel_rfl) ?_
  rintro a t h
  obtain ⟨k, hk⟩ := based_law h
  exact ⟨based_h, 3000, k, (based_ev k a).trans hk⟩

theorem chunk_ok : CtrOk Go.Proofs.Try.prog 168 (mkF [.int .i64] [.int .u64, .int .i64] chunkF) := by
  refine mkF_ok (c := bodyOf Go.Proofs.Try.f168) (tab := S.tab) (cts := []) (res := [2, 3]) tab_ok hm trivial Go.Proofs.Try.func168 (by kernel_rfl) (by kernel_rfl) (by kernel_rfl) (by kernel_rfl) (by kernel_rfl) ?_
  rintro a t h
  obtain ⟨k, hk⟩ := chunk_law h
  exact ⟨chunk_h, 3000, k, (chunk_ev k a).trans hk⟩

theorem step4_ok : CtrOk Go.Proofs.Try.prog 163 (mkF [.int .i64] [.int .u64, .int .i64] step4F) := by
  refine mkF_ok (c := bodyOf Go.Proofs.Try.f163) (tab := S.tab) (cts := []) (res := [2, 3]) tab_ok hm trivial Go.Proofs.Try.func163 (by kernel_rfl) (by kernel_rfl) (by kernel_rfl) (by kernel_rfl) (by kernel_rfl) ?_
  rintro a t h
  obtain ⟨k, hk⟩ := step4_law h
  exact ⟨step4_h, 3000, k, (step4_ev k a).trans hk⟩

theorem written_ok : CtrOk Go.Proofs.Try.prog 160 (mkG [.v (.sl (.int .u64)), .v (.int .i64)] [.o 5 (.int .u8)] writtenF) := by
  refine mkG_ok (c := bodyOf Go.Proofs.Try.f160) (tab := S.tab) (cts := [(168, mkF [.int .i64] [.int .u64, .int .i64] chunkF), (32, mkZ [.sl (.int .u64)] .u64 nNormF), (77, mkF [.sl (.int .u64), .int .u64] [.sl (.int .u64), .int .u64, .int .i64] qSmallF)]) (res := [.tmp 4]) (fm := [(4, .vec 5)]) tab_ok hm ⟨chunk_ok, nNormV_ok, qSmall_ok, trivial⟩ Go.Proofs.Try.func160 (by kernel_rfl) (by kernel_rfl) (by kernel_rfl) (by kernel_rfl) (by kernel_rfl) ?_
  rintro ⟨a, b⟩ t h
  obtain ⟨k, hk⟩ := written_law h
  exact ⟨written_h, 3000, k, (written_ev k a b).trans hk⟩

theorem revy_ok : CtrOk Go.Proofs.Try.prog 161 (mkM [] [] 5 .u8 revyF) := by
  refine mkM_ok (c := bodyOf Go.Proofs.Try.f161) (tab := S.tab) (cts := []) (res := []) rfl tab_ok hm trivial Go.Proofs.Try.func161 (by kernel_rfl) (by kernel_rfl) (by kernel_rfl) (by kernel_rfl) (by kernel_rfl) ?_
  rintro l ⟨⟩ l' t h
  refine ⟨(revy_law h).1, fun pre post => ?_⟩
  obtain ⟨k, hk⟩ := (revy_law h).2 pre post
  exact ⟨revy_h, 3000, k, (revy_ev k _ _ _ ).trans hk⟩

theorem Text_ok : CtrOk Go.Proofs.Try.prog 153 (mkF [.sl (.int .u64), .int .i64] [.str, .int .i64] TextF) := by
  refine mkF_ok (c := bodyOf Go.Proofs.Try.f153) (tab := S.tab) (cts := [(159, mkF [.int .i64] [.bool] basedF), (32, mkZ [.sl (.int .u64)] .u64 nNormF), (160, mkG [.v (.sl (.int .u64)), .v (.int .i64)] [.o 5 (.int .u8)] writtenF), (161, mkM [] [] 5 .u8 revyF)]) (res := [4, 5]) tab_ok hm ⟨based_ok, nNormV_ok, written_ok, revy_ok, trivial⟩ Go.Proofs.Try.func153 (by kernel_rfl) (by kernel_rfl) (by kernel_rfl) (by kernel_rfl) (by kernel_rfl) ?_
  rintro ⟨a, b⟩ t h
  obtain ⟨k, hk⟩ := Text_law h
  exact ⟨Text_h, 3000, k, (Text_ev k a b).trans hk⟩

theorem Count_ok : CtrOk Go.Proofs.Try.prog 141 (mkF [.sl (.int .u64)] [.int .i64] CountF) := by
  refine mkF_ok (c := bodyOf Go.Proofs.Try.f141) (tab := S.tab) (cts := [(153, mkF [.sl (.int .u64), .int .i64] [.str, .int .i64] TextF)]) (res := [2]) tab_ok hm ⟨Text_ok, trivial⟩ Go.Proofs.Try.func141 (by kernel_rfl) (by kernel_rfl) (by kernel_rfl) (by kernel_rfl) (by kernel_rfl) ?_
  rintro a t h
  obtain ⟨k, hk⟩ := Count_law h
  exact ⟨Count_h, 3000, k, (Count_ev k a).trans hk⟩

theorem Five_ok : CtrOk Go.Proofs.Try.prog 139 (mkF [.int .i64] [.sl (.int .u64), .int .i64] Five5F) := by
  refine mkF_ok (c := bodyOf Go.Proofs.Try.f139) (tab := S.tab) (cts := [(46, mkF [.sl (.int .u64), .int .i64] [.sl (.int .u64), .int .i64] qPowF)]) (res := [2, 3]) tab_ok hm ⟨qPow_ok, trivial⟩ Go.Proofs.Try.func139 (by kernel_rfl) (by kernel_rfl) (by kernel_rfl) (by kernel_rfl) (by kernel_rfl) ?_
  rintro a t h
  obtain ⟨k, hk⟩ := Five_law h
  exact ⟨Five_h, 3000, k, (Five_ev k a).trans hk⟩

theorem Ten_ok : CtrOk Go.Proofs.Try.prog 142 (mkF [.int .i64] [.sl (.int .u64), .int .i64] TenF) := by
  refine mkF_ok (c := bodyOf Go.Proofs.Try.f142) (tab := S.tab) (cts := [(139, mkF [.int .i64] [.sl (.int .u64), .int .i64] Five5F), (42, mkF [.sl (.int .u64), .int .i64] [.sl (.int .u64), .int .i64] nShlF)]) (res := [2, 3]) tab_ok hm ⟨Five_ok, nShl_ok, trivial⟩ Go.Proofs.Try.func142 (by kernel_rfl) (by kernel_rfl) (by kernel_rfl) (by kernel_rfl) (by kernel_rfl) ?_
  rintro a t h
  obtain ⟨k, hk⟩ := Ten_law h
  exact ⟨Ten_h, 3000, k, (Ten_ev k a).trans hk⟩

end Go.RX.S
