/- LexLong. -/
import Derived.Test.YtkiihodbgdnijaaGreatDoorJb
set_option linter.unusedVariables false
set_option linter.unusedSimpArgs false
namespace Go.RX.S
open Go Go.RX Go.Proofs

/-! ### the reader, over digits -/
theorem nx_B (c : Int) : nx 133 c = nx_begin c := rfl
theorem nx_S (c : Int) : nx 175 c = nx_signed c := rfl
theorem nx_W (c : Int) : nx 208 c = nx_whole c := rfl
theorem go_whole : ∀ (l rest : List Int) (i : Int), (∀ c, c ∈ l → dg c = true) → lgo (l ++ rest) 208 i (1, i) = lgo rest 208 (i + l.length) (1, i + l.length)
  | [], rest, i, _ => by simp
  | c :: l, rest, i, h => by
    have hc := h c (by simp)
    rw [List.cons_append, lgo, nx_W, nx_whole, if_pos hc]
    dsimp only
    rw [if_pos (by decide), go_whole l rest (i + 1) (fun x hx => h x (by simp [hx]))]
    congr 1
    · simp only [List.length_cons]; omega
    · simp only [List.length_cons, Prod.mk.injEq, true_and]; omega
/-- Digits, the first not 0, in the state behind a sign. -/
theorem go_signed {c : Int} {l : List Int} (i : Int) (a : Int × Int) (h0 : dg c = true) (hn : c ≠ 48) (h : ∀ x, x ∈ l → dg x = true) : lgo (c :: l) 175 i a = (1, i + 1 + l.length) := by
  rw [lgo, nx_S, nx_signed, if_neg hn, if_pos h0]
  dsimp only
  rw [if_pos (by decide)]
  have := go_whole l [] (i + 1) h
  rw [List.append_nil] at this
  rw [this, lgo]
theorem dg_not {c : Int} (h : dg c = true) : ¬ (c = 43 ∨ c = 45) := by
  simp only [dg, decide_eq_true_eq] at h
  omega
theorem go_begin {c : Int} {l : List Int} (i : Int) (a : Int × Int) (h0 : dg c = true) (hn : c ≠ 48) (h : ∀ x, x ∈ l → dg x = true) : lgo (c :: l) 133 i a = (1, i + 1 + l.length) := by
  rw [← go_signed i a h0 hn h]
  rw [lgo, lgo, nx_B, nx_S, nx_begin, if_neg (dg_not h0)]
theorem go_minus {c : Int} {l : List Int} (i : Int) (a : Int × Int) (h0 : dg c = true) (hn : c ≠ 48) (h : ∀ x, x ∈ l → dg x = true) : lgo (45 :: c :: l) 133 i a = (1, i + 1 + 1 + l.length) := by
  rw [lgo, nx_B, nx_begin, if_pos (.inr rfl)]
  dsimp only
  rw [if_neg (by decide)]
  exact go_signed (i + 1) a h0 hn h

/-! ### a row of one digit -/
theorem rep_succ {α : Type} (n : Nat) (x : α) (h : 0 < n) : List.replicate n x = x :: List.replicate (n - 1) x := by
  cases n with
  | zero => omega
  | succ n => rfl
section
variable {C : UInt8} (h1 : 49 ≤ C.toNat) (h2 : C.toNat ≤ 57)
include h1 h2
theorem C_dg : dg (C.toNat : Int) = true := by
  simp only [dg, decide_eq_true_eq]
  omega
theorem C_D : isD C = true := by simp only [isD, Bool.and_eq_true, decide_eq_true_eq]; omega
theorem C_ne {x : UInt8} (h : x.toNat < 49 ∨ 57 < x.toNat) : C ≠ x := by
  rintro rfl
  omega
theorem C_beq {x : UInt8} (h : x.toNat < 49 ∨ 57 < x.toNat) : (C == x) = false := by
  simpa using C_ne h1 h2 h
theorem long_rep {n : Nat} (h0 : 0 < n) (hn : n ≤ 65536) : long (List.replicate n C) = (1, (n : Int)) := by
  unfold long
  rw [List.map_replicate, List.take_of_length_le (by rw [List.length_replicate]; exact hn), rep_succ n _ h0, go_begin 0 (0, 0) (C_dg h1 h2) (by omega) (fun x hx => by rw [List.eq_of_mem_replicate hx]; exact C_dg h1 h2), List.length_replicate]
  congr 1
  omega
theorem long_more {n : Nat} (hn : 65536 ≤ n) : long (List.replicate n C) = (1, 65536) := by
  have e : (List.replicate n C).take 65536 = List.replicate 65536 C := by rw [List.take_replicate, Nat.min_eq_left hn]
  have : long (List.replicate n C) = long (List.replicate 65536 C) := by
    unfold long
    rw [← List.map_take, ← List.map_take, e, List.take_of_length_le (l := List.replicate 65536 C) (by rw [List.length_replicate]; exact Nat.le_refl _)]
  rw [this, long_rep h1 h2 (by decide) (Nat.le_refl _)]
  rfl
theorem long_minus {n : Nat} (hn : 65535 ≤ n) : long (45 :: List.replicate n C) = (1, 65536) := by
  unfold long
  have e : (List.map (fun b : UInt8 => (b.toNat : Int)) (45 :: List.replicate n C)).take 65536 = 45 :: (C.toNat : Int) :: List.replicate 65534 (C.toNat : Int) := by
    rw [List.map_cons, List.map_replicate, show (65536 : Nat) = 65535 + 1 from rfl, List.take_succ_cons, List.take_replicate, Nat.min_eq_left hn, rep_succ 65535 _ (by decide)]
    rfl
  rw [e, go_minus 0 (0, 0) (C_dg h1 h2) (by omega) (fun x hx => by rw [List.eq_of_mem_replicate hx]; exact C_dg h1 h2), List.length_replicate]
  rfl
theorem low_rep (n : Nat) : Lib.toLowerA (List.replicate n C) = List.replicate n C := by
  unfold Lib.toLowerA
  rw [List.map_replicate]
  congr 1
  unfold Lib.lowerB
  have : Lib.isUpperB C = false := by
    unfold Lib.isUpperB
    have : ¬ ((65 : UInt8) ≤ C) := by
      rw [UInt8.le_iff_toNat_le]
      have : (65 : UInt8).toNat = 65 := rfl
      omega
    simp [this]
  rw [this]
  rfl
theorem cut_rep (n : Nat) {x : UInt8} (h : x.toNat < 49 ∨ 57 < x.toNat) : cutB (List.replicate n C) x = (List.replicate n C, [], false) := by
  have hc : (List.replicate n C).contains x = false := by
    rw [List.contains_eq_mem]
    exact decide_eq_false fun hm => C_ne h1 h2 h (List.eq_of_mem_replicate hm).symm
  obtain ⟨q1, q2⟩ := no_tw hc
  simp only [cutB, q1, q2, hc, List.tail_nil]
theorem bared_rep (n : Nat) : baredL (List.replicate n C) = List.replicate n C := by
  cases n with
  | zero => rfl
  | succ n =>
    rw [List.replicate_succ]
    unfold baredL
    rw [List.dropWhile_cons, C_beq h1 h2 (.inl (by decide))]
    rfl
theorem mant_rep (n : Nat) : mantE (List.replicate n C) 1 = (List.replicate n C, [], false) := by
  have : decide ((1 : Int) = 2) = false := rfl
  rw [mantE, this, cond_false, low_rep h1 h2, cut_rep h1 h2 n (.inr (by decide))]
theorem signless_rep {n : Nat} (h0 : 0 < n) : signless (List.replicate n C) = List.replicate n C := by
  rw [rep_succ n _ h0]
  have : isS C = false := by simp only [isS, C_beq h1 h2 (x := 43) (.inl (by decide)), C_beq h1 h2 (x := 45) (.inl (by decide)), Bool.or_self]
  simp only [signless, this, cond_false]
theorem says_core (neg : Bool) (n : Nat) (r : List UInt8) (hr : r = List.replicate n C) : saysR r neg 1 = ⟨1, neg, List.replicate n C, 0, []⟩ := by
  subst hr
  have d3 : decide ((1 : Int) = 3) = false := rfl
  unfold saysR
  rw [d3, cond_false, mant_rep h1 h2]
  dsimp only
  rw [cut_rep h1 h2 n (.inl (by decide))]
  dsimp only
  rw [List.append_nil, bared_rep h1 h2]
  rfl
theorem says_rep {n : Nat} (h0 : 0 < n) : saysN (List.replicate n C) 1 = ⟨1, false, List.replicate n C, 0, []⟩ := by
  have : negL (List.replicate n C) = false := by
    rw [rep_succ n _ h0]
    exact C_beq h1 h2 (.inl (by decide))
  unfold saysN
  rw [this, signless_rep h1 h2 h0]
  exact says_core h1 h2 false n _ rfl
theorem says_minus (n : Nat) : saysN (45 :: List.replicate n C) 1 = ⟨1, true, List.replicate n C, 0, []⟩ := says_core h1 h2 true n _ rfl
theorem asc_rep (n : Nat) : asc (List.replicate n C) = true := by
  unfold asc
  rw [List.all_eq_true]
  intro x hx
  rw [List.eq_of_mem_replicate hx]
  simp
  omega
theorem ok_rep {n : Nat} (h0 : 0 < n) (hn : n ≤ 1000000) : saysOk (List.replicate n C) 1 = true := by
  unfold saysOk
  rw [signless_rep h1 h2 h0, mant_rep h1 h2, asc_rep h1 h2, List.length_replicate, decide_eq_true hn]
  have : (List.replicate n C).isEmpty = false := by rw [rep_succ n _ h0]; rfl
  rw [this]
  rfl
theorem ok_minus {n : Nat} (hn : n ≤ 999999) : saysOk (45 :: List.replicate n C) 1 = true := by
  unfold saysOk
  have e : signless (45 :: List.replicate n C) = List.replicate n C := rfl
  have ha : asc (45 :: List.replicate n C) = true := by
    have := asc_rep h1 h2 n
    unfold asc at this ⊢
    rw [List.all_cons, this]
    rfl
  rw [e, mant_rep h1 h2, ha, List.length_cons, List.length_replicate, decide_eq_true (by omega)]
  rfl
theorem plain_rep {n : Nat} : plainB (List.replicate n C) false = decide (n ≤ 65536) := by
  unfold plainB
  have hall : ((List.replicate n C).all fun b => isD b || (false && isX b)) = true := by
    rw [List.all_eq_true]
    intro x hx
    rw [List.eq_of_mem_replicate hx, C_D h1 h2]
    rfl
  rw [hall, List.length_replicate]
  cases n with
  | zero => rfl
  | succ n =>
    rw [List.replicate_succ]
    have : (C.toNat != 48) = true := by simp; omega
    dsimp only
    rw [this, Bool.and_true, Bool.and_true]
theorem check_rep {n : Nat} (hn : n ≤ 1000000) : xCheckF (Nm.to ⟨1, false, List.replicate n C, 0, []⟩) = some (cond (decide (n ≤ 65536)) 0 90) := by
  unfold xCheckF
  rw [Nm.of_to]
  have e : Nm.ok ⟨1, false, List.replicate n C, 0, []⟩ = true := by
    simp only [Nm.ok, List.length_replicate, decide_eq_true hn, List.length_nil]
    rfl
  have d : decide ((1 : Int) = 2) = false := rfl
  rw [e, cond_true]
  unfold checkB
  dsimp only
  rw [d, plain_rep h1 h2]
  cases decide (n ≤ 65536) <;> rfl
end

theorem scan_gen {l r : List UInt8} {f e : Int} (hl : l.length ≤ 1000000) (h0 : 0 ≤ f) (h1 : f ≤ l.length) (hr : l.drop f.toNat = r) (hg : long r = (1, e)) (he : 0 ≤ e) (he2 : e ≤ r.length) (hs : saysOk (r.take e.toNat) 1 = true) :
    xScanF (sb l, f) = some ((saysN (r.take e.toNat) 1).to, f + e, none) := by
  have d : (decide (0 ≤ f) && decide (f ≤ (l.length : Int))) = true := by rw [decide_eq_true h0, decide_eq_true h1]; rfl
  have dk : decide ((1 : Int) = 0) = false := rfl
  have ok : scanOk l f = true := by
    unfold scanOk
    rw [d, hr]
    dsimp only
    rw [hg]
    dsimp only
    rw [dk, hs, decide_eq_true hl, decide_eq_true he, decide_eq_true he2]
    rfl
  rw [xScanF_0 ok]
  unfold scanN
  rw [d, cond_true, hr]
  dsimp only
  rw [hg]
  dsimp only
  rw [dk, cond_false]

theorem sb_size (l : List UInt8) : (sb l).size = l.length := rfl
theorem sb_ext (l : List UInt8) (n : Nat) : ByteArray.extract (sb l) 0 n = sb (l.take n) := by rw [ext_sb, bs_sb, List.drop_zero]
theorem sb_cat (l m : List UInt8) : strCat (sb l) (sb m) = sb (l ++ m) := by rw [strCat_bs, bs_sb, bs_sb]
section
variable {C : UInt8} (h1 : 49 ≤ C.toNat) (h2 : C.toNat ≤ 57)
include h1 h2
theorem scan_more {n : Nat} (hn : 65536 ≤ n) (hm : n ≤ 1000000) : xScanF (sb (List.replicate n C), 0) = some (Nm.to ⟨1, false, List.replicate 65536 C, 0, []⟩, 65536, none) := by
  have e : (List.replicate n C).take (65536 : Int).toNat = List.replicate 65536 C := by rw [List.take_replicate, show (65536 : Int).toNat = 65536 from rfl, Nat.min_eq_left hn]
  have := scan_gen (l := List.replicate n C) (r := List.replicate n C) (f := 0) (e := 65536) (by rw [List.length_replicate]; exact hm) (by decide) (by omega) List.drop_zero (long_more h1 h2 hn) (by decide) (by rw [List.length_replicate]; omega) (by rw [e]; exact ok_rep h1 h2 (by decide) (by decide))
  rw [e, says_rep h1 h2 (by decide)] at this
  rw [this]
  rfl
theorem scan_behind {n : Nat} (h0 : 0 < n) (hn : n ≤ 65536) : xScanF (sb (32 :: List.replicate n C), 1) = some (Nm.to ⟨1, false, List.replicate n C, 0, []⟩, 1 + (n : Int), none) := by
  have e : (List.replicate n C).take (n : Int).toNat = List.replicate n C := by rw [List.take_replicate, Int.toNat_natCast, Nat.min_self]
  have := scan_gen (l := 32 :: List.replicate n C) (r := List.replicate n C) (f := 1) (e := n) (by rw [List.length_cons, List.length_replicate]; omega) (by decide) (by rw [List.length_cons]; omega) rfl (long_rep h1 h2 h0 hn) (by omega) (by rw [List.length_replicate]; omega) (by rw [e]; exact ok_rep h1 h2 h0 (by omega))
  rw [e, says_rep h1 h2 h0] at this
  exact this
theorem scan_minus {n : Nat} (hn : 65535 ≤ n) (hm : n ≤ 999999) : xScanF (sb (45 :: List.replicate n C), 0) = some (Nm.to ⟨1, true, List.replicate 65535 C, 0, []⟩, 65536, none) := by
  have e : (45 :: List.replicate n C).take (65536 : Int).toNat = 45 :: List.replicate 65535 C := by
    rw [show (65536 : Int).toNat = 65535 + 1 from rfl, List.take_succ_cons, List.take_replicate, Nat.min_eq_left hn]
  have := scan_gen (l := 45 :: List.replicate n C) (r := 45 :: List.replicate n C) (f := 0) (e := 65536) (by rw [List.length_cons, List.length_replicate]; omega) (by decide) (by omega) List.drop_zero (long_minus h1 h2 hn) (by decide) (by rw [List.length_cons, List.length_replicate]; omega) (by rw [e]; exact ok_minus h1 h2 (by decide))
  rw [e, says_minus h1 h2] at this
  rw [this]
  rfl
end
theorem strOf_rep {C : UInt8} (n : Nat) : strOfI (List.replicate n (C.toNat : Int)) = sb (List.replicate n C) := by
  unfold strOfI sb
  rw [List.map_replicate, Int.toNat_natCast, UInt8.ofNat_toNat]
theorem Nm_to2 (n : Nm) : AV.toStr (aget n.to 2) = sb n.num := Eq.trans rfl rfl
theorem Nm.eta2 (n : Nm) : [AV.int .i64 (AV.toInt (aget n.to 0)), AV.bool (AV.toBool (aget n.to 1)), AV.str (sb n.num), AV.int .i64 (AV.toInt (aget n.to 3)), AV.str (AV.toStr (aget n.to 4))] = n.to := Eq.trans rfl rfl
theorem Nm_to1 (n : Nm) : AV.toBool (aget n.to 1) = n.neg := Eq.trans rfl rfl
theorem long_loop (t0 c : Int) : ∀ (j i k : Nat), i + j = 65537 → LexLong_L10 (j + k) t0 c (i : Int) (List.replicate i c) = LexLong_L10 k t0 c ((65537 : Nat) : Int) (List.replicate 65537 c)
  | 0, i, k, h => by
    rw [Nat.zero_add, show i = 65537 from by omega]
  | j + 1, i, k, h => by
    rw [show j + 1 + k = (j + k) + 1 from by omega, LexLong_L10, LexLong_b10]
    rw [decide_eq_true (by omega : (i : Int) < 65537), cond_true, inc (by omega), ← List.replicate_succ']
    rw [List.length_replicate, decide_eq_true (by omega : (((i + 1 : Nat) : Int)) * 1 ≤ 140737488355328), cond_true]
    exact long_loop t0 c j (i + 1) k (by omega)
theorem LexLong_end {C : UInt8} (h1 : 49 ≤ C.toNat) (h2 : C.toNat ≤ 57) {n : Nat} (hn : n < 40) : LexLong_L10 1 (n : Int) (C.toNat : Int) ((65537 : Nat) : Int) (List.replicate 65537 (C.toNat : Int)) = some true := by
  rw [LexLong_L10, LexLong_b10]
  rw [decide_eq_false (by omega : ¬ (((65537 : Nat) : Int) < 65537)), cond_false, strOf_rep]
  rw [scan_more h1 h2 (by decide) (by decide), Option.bind_some]
  have hsub : subI .i64 65536 (n : Int) = ((65536 - n : Nat) : Int) := by
    rw [subI_i64 (by omega)]
    omega
  rw [hsub, sb_size, List.length_replicate, Int.toNat_natCast, sb_ext, List.take_replicate, Nat.min_eq_left (by omega : 65536 - n ≤ 65537)]
  rw [decide_eq_true (by omega : (0 : Int) ≤ ((65536 - n : Nat) : Int)), decide_eq_true (by omega : ((65536 - n : Nat) : Int) ≤ ((65537 : Nat) : Int)), cond_true, cond_true]
  rw [sb_size, List.length_replicate, decide_eq_true (by omega : 1 + (65536 - n) ≤ 9223372036854775807), cond_true]
  have c32 : strCat (strOfI [(32 : Int)]) (sb (List.replicate (65536 - n) C)) = sb (32 :: List.replicate (65536 - n) C) := sb_cat [32] _
  have c45 : strCat (strOfI [(45 : Int)]) (sb (List.replicate 65537 C)) = sb (45 :: List.replicate 65537 C) := sb_cat [45] _
  rw [c32, scan_behind h1 h2 (by omega) (by omega), Option.bind_some]
  have es : errSome none = false := rfl
  have q36 : decide (((65536 : Nat) : Int) = (65536 : Int)) = true := by decide
  have q35 : decide (((65535 : Nat) : Int) = (65535 : Int)) = true := by decide
  dsimp only
  rw [es, cond_false, cond_false, decide_eq_true (rfl : (65536 : Int) = 65536)]
  rw [Nm_to2, Nm_to2, sb_size]
  dsimp only
  rw [List.length_replicate, q36]
  have ha : addI .i64 ((65536 - n : Nat) : Int) 1 = 1 + ((65536 - n : Nat) : Int) := by
    rw [addI_i64 (by omega)]
    omega
  rw [ha, decide_eq_true (rfl : (1 + ((65536 - n : Nat) : Int)) = 1 + ((65536 - n : Nat) : Int))]
  have hq : strEq (sb (List.replicate (65536 - n) C)) (sb (List.replicate (65536 - n) C)) = true := by rw [strEq_bs, beq_self_eq_true]
  rw [hq, decide_eq_true (by omega : 1 + 65537 ≤ 9223372036854775807), c45, scan_minus h1 h2 (by decide) (by decide), Option.bind_some]
  dsimp only
  rw [es, decide_eq_true (rfl : (65536 : Int) = 65536), Nm_to2, Nm_to1, sb_size]
  dsimp only
  rw [List.length_replicate, q35, Nm.eta2, check_rep h1 h2 (by decide)]
  have hw : [AV.int .i64 (1 : Int), AV.bool false, AV.str (sb (List.replicate 65537 C)), AV.int .i64 (0 : Int), AV.str (strOfI [])] = Nm.to ⟨1, false, List.replicate 65537 C, 0, []⟩ := Eq.trans rfl rfl
  rw [hw, check_rep h1 h2 (by decide), decide_eq_true (Nat.le_refl _), decide_eq_false (by decide : ¬ (65537 ≤ 65536))]
  rfl
theorem LexLong_law {a b : Int} {t : Bool} (h : LexLongF (a, b) = some t) : ∃ k : Nat, LexLong_b0 (LexLong_L10 k) a b = some t := by
  obtain ⟨hd, h2⟩ := Option_cond h
  cases h2
  simp only [Bool.and_eq_true, decide_eq_true_eq] at hd
  obtain ⟨⟨⟨a1, a2⟩, b1⟩, b2⟩ := hd
  refine ⟨65537 + 1, ?_⟩
  unfold LexLong_b0
  have i1 : into9F (a, 40) = some (a % 40) := by
    unfold into9F
    dsimp only
    rw [decide_eq_true a1, decide_eq_true a2]
    rfl
  have i2 : into9F (b, 9) = some (b % 9) := by
    unfold into9F
    dsimp only
    rw [decide_eq_true b1, decide_eq_true b2]
    rfl
  rw [i1, i2, Option.bind_some, Option.bind_some]
  have m1 := Int.emod_nonneg b (by decide : (9 : Int) ≠ 0)
  have m2 := Int.emod_lt_of_pos b (by decide : (0 : Int) < 9)
  have n1 := Int.emod_nonneg a (by decide : (40 : Int) ≠ 0)
  have n2 := Int.emod_lt_of_pos a (by decide : (0 : Int) < 40)
  obtain ⟨n, hn⟩ : ∃ n : Nat, a % 40 = (n : Int) := ⟨(a % 40).toNat, by omega⟩
  obtain ⟨c, hc⟩ : ∃ c : Nat, 49 + b % 9 = (c : Int) := ⟨(49 + b % 9).toNat, by omega⟩
  have hC : (UInt8.ofNat c).toNat = c := by
    rw [UInt8.toNat_ofNat']
    omega
  have hv : cvI .u8 (addI .i64 49 (b % 9)) = ((UInt8.ofNat c).toNat : Int) := by
    rw [hC, addI_i64 (by omega), hc]
    exact IntWalk.u8_in _ (by omega)
  rw [hv, hn]
  have := long_loop (n : Int) ((UInt8.ofNat c).toNat : Int) 65537 0 1 rfl
  rw [Int.natCast_zero, List.replicate_zero] at this
  rw [this]
  exact LexLong_end (by rw [hC]; omega) (by rw [hC]; omega) (by omega)
theorem LexLong_ok : CtrOk Go.Proofs.Tryz.prog 4 (mkF [.int .i64, .int .i64] [.bool] LexLongF) := by
  refine mkF_ok (c := bodyOf Go.Proofs.Tryz.f4) (tab := S.tab) (cts := [(28, mkF [.int .i64, .int .i64] [.int .i64] into9F), (29, mkF [.str, .int .i64] [.st [.int .i64, .bool, .str, .int .i64, .str], .int .i64, .err] xScanF), (25, mkF [.st [.int .i64, .bool, .str, .int .i64, .str]] [.int .i64] xCheckF)]) (res := [4]) tab_ok hm ⟨into9_ok, xScan_ok, xCheck_ok, trivial⟩ Go.Proofs.Tryz.func4 (by kernel_rfl) (by kernel_rfl) (by kernel_rfl) (by kernel_rfl) (by kernel_rfl) ?_
  rintro ⟨a, b⟩ t h
  obtain ⟨k, hk⟩ := LexLong_law h
  exact ⟨LexLong_h, 3000, k, (LexLong_ev k a b).trans hk⟩

end Go.RX.S
