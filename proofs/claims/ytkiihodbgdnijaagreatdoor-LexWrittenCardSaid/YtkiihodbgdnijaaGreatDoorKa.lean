/- lex: what is computed. -/
import Derived.Test.YtkiihodbgdnijaaGreatDoorJa
set_option linter.unusedVariables false
set_option linter.unusedSimpArgs false
namespace Go.RX.S
open Go Go.RX Go.Proofs

/-! ### texts as lists of bytes -/
theorem bs_sb (l : List UInt8) : bs (sb l) = l := rfl
theorem sb_bs (s : ByteArray) : sb (bs s) = s := rfl
theorem bs_len (s : ByteArray) : (bs s).length = s.size := rfl
theorem bs_ext (s : ByteArray) (i j : Nat) : bs (s.extract i j) = ((bs s).take j).drop i := by
  simp only [bs, ByteArray.data_extract, Array.toList_extract, List.extract_eq_take_drop]
  rw [List.drop_take]
theorem ext_sb (s : ByteArray) (i j : Nat) : s.extract i j = sb (((bs s).take j).drop i) := by rw [← bs_ext, sb_bs]
theorem strEq_bs (a b : ByteArray) : strEq a b = (bs a == bs b) := by
  unfold strEq bs
  rw [ByteArray.toList_eq, ByteArray.toList_eq]
theorem strCat_bs (a b : ByteArray) : strCat a b = sb (bs a ++ bs b) := by
  obtain ⟨⟨a⟩⟩ := a
  obtain ⟨⟨b⟩⟩ := b
  rfl
theorem byteAt_bs {s : ByteArray} {i : Nat} {b : UInt8} (h : (bs s)[i]? = some b) : byteAt s i = b.toNat := by
  unfold byteAt
  rw [List.getD_eq_getElem?_getD]
  rw [show s.data.toList = bs s from rfl, Int.toNat_natCast, h]
  rfl
theorem lim_le {s : ByteArray} (h : lim s = true) : (bs s).length ≤ 1000000 := by simpa [lim, bs_len] using h

theorem xDigit_law {a : Int} {t : Bool} (h : xDigitF a = some t) : ∃ k : Nat, xDigit_b0 a = some t := by
  cases h
  refine ⟨0, ?_⟩
  unfold xDigit_b0
  by_cases h1 : 48 ≤ a <;> simp [h1]

theorem ixB : ∀ (l : List UInt8) (b : UInt8), Lib.indexByte l b = if l.contains b then ((l.takeWhile (· != b)).length : Int) else -1
  | [], b => rfl
  | a :: l, b => by
    unfold Lib.indexByte
    rw [ixB l b]
    by_cases h : a = b
    · subst h; simp
    · have h1 : (a == b) = false := by simpa using h
      have h2 : (a != b) = true := by simpa using h
      have h3 : (b == a) = false := by simpa using fun e => h e.symm
      simp only [h1, List.contains_cons, h3, Bool.false_or, List.takeWhile_cons, h2, if_true]
      cases hc : l.contains b
      · simp
      · simp <;> omega
theorem drop_tw (l : List UInt8) (b : UInt8) : l.drop (l.takeWhile (· != b)).length = l.dropWhile (· != b) := by
  induction l with
  | nil => rfl
  | cons a l ih =>
    by_cases h : (a != b) = true
    · simp [List.takeWhile_cons, List.dropWhile_cons, h, ih]
    · simp [List.takeWhile_cons, List.dropWhile_cons, h]
theorem take_tw (l : List UInt8) (b : UInt8) : l.take (l.takeWhile (· != b)).length = l.takeWhile (· != b) := by
  induction l with
  | nil => rfl
  | cons a l ih =>
    by_cases h : (a != b) = true
    · simp [List.takeWhile_cons, h, ih]
    · simp [List.takeWhile_cons, h]
theorem no_tw {l : List UInt8} {b : UInt8} (h : l.contains b = false) : l.takeWhile (· != b) = l ∧ l.dropWhile (· != b) = [] := by
  induction l with
  | nil => exact ⟨rfl, rfl⟩
  | cons a l ih =>
    simp only [List.contains_cons, Bool.or_eq_false_iff] at h
    have h2 : (a != b) = true := by
      have := h.1
      simp at this ⊢
      exact fun e => this e.symm
    simp [List.takeWhile_cons, List.dropWhile_cons, h2, ih h.2]
theorem tw_le (l : List UInt8) (b : UInt8) : (l.takeWhile (· != b)).length ≤ l.length := (List.takeWhile_sublist _).length_le
theorem tw_lt {l : List UInt8} {b : UInt8} (h : l.contains b = true) : (l.takeWhile (· != b)).length < l.length := by
  induction l with
  | nil => simp at h
  | cons a l ih =>
    by_cases h2 : (a != b) = true
    · have : l.contains b = true := by
        simp only [List.contains_cons, Bool.or_eq_true] at h
        rcases h with h | h
        · simp at h h2; exact absurd h.symm h2
        · exact h
      simp [List.takeWhile_cons, h2]
      exact ih this
    · simp [List.takeWhile_cons, h2]

theorem cutL9_law {a b : ByteArray} {t : ByteArray × ByteArray × Bool} (h : cutL9F (a, b) = some t) : ∃ k : Nat, cutL9_b0 a b = some t := by
  refine ⟨0, ?_⟩
  simp only [cutL9F] at h
  split at h
  · rename_i x hx
    obtain ⟨h1, h2⟩ := Option_cond h
    cases h2
    have hl := lim_le h1
    have hb : b.size = 1 := by rw [← bs_len, hx]; rfl
    unfold cutL9_b0
    have hi : idx1F (a, b) = some (Lib.indexByte (bs a) x) := by simp only [idx1F, hx]
    rw [hi, Option.bind_some, ixB]
    cases hc : (bs a).contains x
    · obtain ⟨q1, q2⟩ := no_tw hc
      have hm : ¬ x ∈ bs a := by simpa using hc
      simp [cutB, q1, q2, hm, sb_bs]
      rfl
    · have hlt := tw_lt hc
      have hle := tw_le (bs a) x
      rw [bs_len] at hlt hl
      have e1 : addI .i64 ((List.takeWhile (· != x) (bs a)).length : Int) (b.size : Int) = ((List.takeWhile (· != x) (bs a)).length + 1 : Nat) := by
        rw [hb]
        rw [addI_i64 (by omega)]
        omega
      simp only [if_true]
      rw [e1]
      have d1 : decide (((List.takeWhile (· != x) (bs a)).length : Int) ≥ 0) = true := by simp
      have d2 : decide ((0 : Int) ≤ ((List.takeWhile (· != x) (bs a)).length : Int)) = true := by simp
      have d3 : decide (((List.takeWhile (· != x) (bs a)).length : Int) ≤ (a.size : Int)) = true := by simp; omega
      have d4 : decide ((0 : Int) ≤ (((List.takeWhile (· != x) (bs a)).length + 1 : Nat) : Int)) = true := by simp; omega
      have d5 : decide ((((List.takeWhile (· != x) (bs a)).length + 1 : Nat) : Int) ≤ (a.size : Int)) = true := by simp; omega
      simp only [d1, d2, d3, d4, d5, cond_true]
      rw [ext_sb, ext_sb]
      simp only [Int.toNat_natCast, List.drop_zero, take_tw, cutB, hc]
      rw [List.take_of_length_le (by rw [bs_len]; exact Nat.le_refl _), ← List.drop_drop, drop_tw]
      cases hd : List.dropWhile (· != x) (bs a) <;> simp
  · cases h
theorem cutS_law {a b : ByteArray} {t : ByteArray × ByteArray × Bool} (h : cutSF (a, b) = some t) : ∃ k : Nat, cutS_b0 a b = some t := by
  refine ⟨0, ?_⟩
  unfold cutS_b0
  rw [show cutL9F (a, b) = some t from h]
  rfl

theorem xHeld_law {a : Int} {t : Int} (h : xHeldF a = some t) : ∃ k : Nat, xHeld_b0 a = some t := by
  cases h
  refine ⟨0, ?_⟩
  simp only [xHeld_b0, minI, maxI, heldI]
  congr 1
  split <;> split <;> omega
theorem xSome_law {a : ByteArray} {t : ByteArray} (h : xSomeF a = some t) : ∃ k : Nat, xSome_b0 a = some t := by
  cases h
  refine ⟨0, ?_⟩
  unfold xSome_b0
  rw [strEq_bs]
  cases hb : bs a with
  | nil => simp [bs, strOfI]; rfl
  | cons x l => simp [bs, strOfI]
theorem xBared_law {a : ByteArray} {t : ByteArray} (h : xBaredF a = some t) : ∃ k : Nat, xBared_b0 a = some t := by
  cases h
  refine ⟨0, ?_⟩
  unfold xBared_b0 trimLF baredL
  have e : bs (strOfI [(48 : Int)]) = [48] := rfl
  simp only [e]
  have : (asc [48] && decide ((strOfI [(48 : Int)]).size < 4294967281)) = true := by decide
  rw [this]
  have e2 : (fun x : UInt8 => ([48] : List UInt8).contains x) = fun x => x == 48 := by
    funext x
    rw [List.contains_cons]
    simp
  rw [e2]
  rfl

theorem xDigitF_eq (b : UInt8) : xDigitF (b.toNat : Int) = some (isD b) := by
  simp only [xDigitF, isD]
  congr 2 <;> exact decide_eq_decide.2 (by omega)
theorem plain_loop (a : ByteArray) (b : Bool) (ha : (bs a).length ≤ 1000000) : ∀ (l : List UInt8) (i k : Nat), l = (bs a).drop i → i + l.length = (bs a).length → l.length < k → xPlain_L8 k a b (a.size : Int) (i : Int) = some (l.all fun c => isD c || (b && isX c))
  | [], i, k + 1, hl, hn, hk => by
    rw [xPlain_L8, xPlain_b8]
    have : decide ((i : Int) < (a.size : Int)) = false := decide_eq_false (by rw [← bs_len, ← hn]; simp)
    rw [this]
    rfl
  | c :: l, i, k + 1, hl, hn, hk => by
    have hi : i < a.size := by rw [← bs_len, ← hn]; simp
    have hc : (bs a)[i]? = some c := by
      have := congrArg (fun z => z[0]?) hl
      simp only [List.getElem?_cons_zero, List.getElem?_drop, Nat.add_zero] at this
      exact this.symm
    have hl' : l = (bs a).drop (i + 1) := by
      rw [← List.drop_drop, ← hl]
      rfl
    have ih := plain_loop a b ha l (i + 1) k hl' (by simp at hn; omega) (by simpa using hk)
    have hinc : addI .i64 (i : Int) 1 = ((i + 1 : Nat) : Int) := inc (by rw [← bs_len] at hi; omega)
    rw [xPlain_L8, xPlain_b8]
    have d1 : decide ((i : Int) < (a.size : Int)) = true := decide_eq_true (by omega)
    rw [d1, inR hi, byteAt_bs hc, xDigitF_eq, hinc, ih]
    have dx : isX c = (decide ((c.toNat : Int) ≥ 97) && decide ((c.toNat : Int) ≤ 102)) := by
      unfold isX
      congr 1 <;> exact decide_eq_decide.2 (by omega)
    rw [List.all_cons, dx]
    cases isD c <;> cases b <;> cases hx : decide ((c.toNat : Int) ≥ 97) <;> cases hy : decide ((c.toNat : Int) ≤ 102) <;> simp [hx, hy]
theorem xPlain_law {a : ByteArray} {b : Bool} {t : Bool} (h : xPlainF (a, b) = some t) : ∃ k : Nat, xPlain_b0 (xPlain_L8 k) a b = some t := by
  obtain ⟨h1, h2⟩ := Option_cond h
  cases h2
  have hl := lim_le h1
  refine ⟨(bs a).length + 1, ?_⟩
  have hp := plain_loop a b hl (bs a) 0 _ rfl (by simp) (Nat.lt_succ_self _)
  rw [Int.natCast_zero] at hp
  unfold xPlain_b0
  rw [hp]
  by_cases c1 : (a.size : Int) > 65536
  · rw [decide_eq_true c1]
    have : decide ((bs a).length ≤ 65536) = false := decide_eq_false (by rw [bs_len]; omega)
    simp [plainB, this]
  · rw [decide_eq_false c1]
    have d0 : decide ((bs a).length ≤ 65536) = true := decide_eq_true (by rw [bs_len]; omega)
    cases hb : bs a with
    | nil =>
      have : a.size = 0 := by rw [← bs_len, hb]; rfl
      rw [this]
      simp [plainB]
    | cons c l =>
      have hs : a.size = l.length + 1 := by rw [← bs_len, hb]; rfl
      have d1 : decide ((a.size : Int) > 0) = true := decide_eq_true (by omega)
      have hc : byteAt a 0 = (c.toNat : Int) := byteAt_bs (i := 0) (by rw [hb]; rfl)
      have hr : inRange 0 a.size = true := inR (i := 0) (by omega)
      rw [d1, hr, hc, ← hb]
      unfold plainB
      rw [d0, hb]
      by_cases c0 : c.toNat = 48
      · have : ((c.toNat : Int) = 48) := by omega
        simp [c0]
      · have : ¬ ((c.toNat : Int) = 48) := by omega
        simp [c0, this]

theorem xPlainF_len {s : ByteArray} {x : Bool} (h : (bs s).length ≤ 1000000) : xPlainF (s, x) = some (plainB (bs s) x) := by
  have : lim s = true := decide_eq_true (by rw [← bs_len]; exact h)
  simp only [xPlainF, this, cond_true]
theorem strEq_nil (s : ByteArray) : strEq s (strOfI []) = (bs s).isEmpty := by
  rw [strEq_bs]
  cases bs s <;> rfl
theorem xCheck_law {a : List AV} {t : Int} (h : xCheckF a = some t) : ∃ k : Nat, xCheck_b0 a = some t := by
  obtain ⟨h1, h2⟩ := Option_cond h
  cases h2
  refine ⟨0, ?_⟩
  simp only [Nm.ok, Nm.of, Bool.and_eq_true] at h1
  obtain ⟨h1, h3⟩ := h1
  have h1 := of_decide_eq_true h1
  have h3 := of_decide_eq_true h3
  unfold xCheck_b0
  simp only [xPlainF_len h1, xPlainF_len h3, strEq_nil, xHeldF, Option.bind_some, checkB, Nm.of]
  by_cases k1 : AV.toInt (aget a 0) = 1
  · simp only [k1]
    cases plainB (bs (AV.toStr (aget a 2))) (decide ((1 : Int) = 2)) <;> cases (bs (AV.toStr (aget a 4))).isEmpty <;> by_cases hh : heldI (AV.toInt (aget a 3)) = AV.toInt (aget a 3) <;> simp [hh]
  · by_cases k2 : AV.toInt (aget a 0) = 2
    · simp only [k2]
      cases (bs (AV.toStr (aget a 4))).isEmpty <;> by_cases hh : heldI (AV.toInt (aget a 3)) = AV.toInt (aget a 3) <;> simp [hh] <;> cases plainB (bs (AV.toStr (aget a 2))) true <;> rfl
    · by_cases k3 : AV.toInt (aget a 0) = 3
      · simp only [k3]
        cases plainB (bs (AV.toStr (aget a 2))) false <;> cases plainB (bs (AV.toStr (aget a 4))) false <;> by_cases hh : AV.toInt (aget a 3) = 0 <;> simp [hh]
      · simp [k1, k2, k3]

theorem digitVal_D {b : UInt8} (h : isD b = true) : Lib.digitVal b = some (b.toNat - 48) ∧ 48 ≤ b.toNat ∧ b.toNat ≤ 57 := by
  simp only [isD, Bool.and_eq_true, decide_eq_true_eq] at h
  exact ⟨by rw [Lib.digitVal, if_pos h], h⟩
theorem decFrom_digs : ∀ (l : List UInt8) (acc : Nat), l.all isD = true → ∃ n : Nat, Lib.decFrom acc l = some n ∧ (n : Int) = l.foldl (fun n b => n * 10 + ((b.toNat : Int) - 48)) (acc : Int) ∧ n < (acc + 1) * 10 ^ l.length
  | [], acc, _ => ⟨acc, rfl, rfl, by simp⟩
  | b :: l, acc, h => by
    rw [List.all_cons, Bool.and_eq_true] at h
    obtain ⟨q1, q2, q3⟩ := digitVal_D h.1
    obtain ⟨n, e1, e2, e3⟩ := decFrom_digs l (acc * 10 + (b.toNat - 48)) h.2
    refine ⟨n, by rw [Lib.decFrom, q1]; exact e1, ?_, ?_⟩
    · rw [e2, List.foldl_cons]
      congr 1
      omega
    · refine Nat.lt_of_lt_of_le e3 ?_
      rw [List.length_cons, Nat.pow_succ, Nat.mul_comm (10 ^ l.length) 10, ← Nat.mul_assoc]
      exact Nat.mul_le_mul_right _ (by omega)
theorem digs_bound {l : List UInt8} (h : l.all isD = true) (hl : l.length < 13) : 0 ≤ digs l ∧ digs l < 10000000000000 := by
  obtain ⟨n, e1, e2, e3⟩ := decFrom_digs l 0 h
  have : digs l = n := e2.symm
  rw [this]
  have h2 : (0 + 1) * 10 ^ l.length ≤ 10 ^ 13 := by rw [Nat.zero_add, Nat.one_mul]; exact Nat.pow_le_pow_right (by decide) (by omega)
  have h3 : (10 : Nat) ^ 13 = 10000000000000 := by decide
  omega
theorem atoi_digs {l : List UInt8} (h : l.all isD = true) : Lib.atoi (48 :: l) = some (digs l) := by
  obtain ⟨n, e1, e2, e3⟩ := decFrom_digs l 0 h
  have hd : Lib.decNat (48 :: l) = some n := by
    have : Lib.digitVal 48 = some 0 := by decide
    simp only [Lib.decNat, List.isEmpty_cons, Bool.false_eq_true, if_false, Lib.decFrom, this]
    exact e1
  rw [show Lib.atoi (48 :: l) = Option.map (fun (m : Nat) => (m : Int)) (Lib.decNat (48 :: l)) from rfl, hd]
  exact congrArg some e2
theorem expV_bound {l : List UInt8} (h : (expD l).all isD = true) : -10000000000000 ≤ expV l ∧ expV l ≤ 10000000000000 := by
  have hn : 0 ≤ expN l ∧ expN l ≤ 10000000000000 := by
    unfold expN
    by_cases c : (expD l).length < 13
    · rw [decide_eq_true c, cond_true]
      have := digs_bound h c
      omega
    · rw [decide_eq_false c]
      simp only [cond_false]
      omega
  unfold expV
  cases l with
  | nil => decide
  | cons b l =>
    dsimp only
    cases (b == 45)
    · simp only [cond_false]; omega
    · simp only [cond_true]; omega
theorem xExpo_law {a : ByteArray} {t : Int} (h : xExpoF a = some t) : ∃ k : Nat, xExpo_b0 a = some t := by
  obtain ⟨h1, h2⟩ := Option_cond h
  cases h2
  rw [Bool.and_eq_true] at h1
  obtain ⟨hl, hd⟩ := h1
  refine ⟨0, ?_⟩
  unfold xExpo_b0
  rw [strEq_nil]
  have ht : trimLF (a, strOfI [(43 : Int), (45 : Int)]) = some (sb ((bs a).dropWhile isS)) := by
    have e : bs (strOfI [(43 : Int), (45 : Int)]) = [43, 45] := rfl
    simp only [trimLF, e]
    have : (asc [43, 45] && decide ((strOfI [(43 : Int), (45 : Int)]).size < 4294967281)) = true := by decide
    rw [this]
    have e2 : (fun x : UInt8 => ([43, 45] : List UInt8).contains x) = isS := by
      funext x
      simp [isS]
      rfl
    rw [e2]
    rfl
  rw [ht]
  simp only [Option.bind_some, xBaredF, bs_sb]
  have hx : baredL ((bs a).dropWhile isS) = expD (bs a) := rfl
  have hsz : (sb (expD (bs a))).size = (expD (bs a)).length := rfl
  simp only [hx, hsz]
  cases hb : bs a with
  | nil => rfl
  | cons b l =>
    have hs : 0 < a.size := by rw [← bs_len, hb]; simp
    have hc : byteAt a 0 = (b.toNat : Int) := byteAt_bs (i := 0) (by rw [hb]; rfl)
    have hr : inRange 0 a.size = true := inR (i := 0) hs
    rw [hr, hc, ← hb]
    have hb45 : (b == 45) = decide ((b.toNat : Int) = 45) := by
      by_cases e : b = 45
      · subst e; rfl
      · have : ¬ ((b.toNat : Int) = 45) := fun h => e (UInt8.toNat_inj.1 (by have : (45 : UInt8).toNat = 45 := rfl; omega))
        simp [e, this]
    have hv : expV (bs a) = cond (b == 45) (-(expN (bs a))) (expN (bs a)) := by rw [hb]; rfl
    rw [hv, hb45]
    by_cases c : (expD (bs a)).length < 13
    · have d1 : decide (((expD (bs a)).length : Int) < 13) = true := decide_eq_true (by omega)
      have d2 : decide (1 + (expD (bs a)).length ≤ 9223372036854775807) = true := decide_eq_true (by omega)
      have hat : atoiF (strCat (strOfI [(48 : Int)]) (sb (expD (bs a)))) = some (digs (expD (bs a)), none) := by
        rw [strCat_bs]
        have e : bs (strOfI [(48 : Int)]) = [48] := rfl
        rw [e, bs_sb]
        have hsz : (sb ([48] ++ expD (bs a))).size = 1 + (expD (bs a)).length := by
          show ([48] ++ expD (bs a)).length = _
          simp
          omega
        have d3 : decide ((sb ([48] ++ expD (bs a))).size ≤ 18) = true := decide_eq_true (by rw [hsz]; omega)
        unfold atoiF
        rw [d3, bs_sb, List.singleton_append, atoi_digs hd]
        rfl
      rw [d1, hat]
      have hN : expN (bs a) = digs (expD (bs a)) := by rw [expN, decide_eq_true c]; rfl
      have hbd := digs_bound hd c
      rw [hN]
      have hneg : subI .i64 0 (digs (expD (bs a))) = -(digs (expD (bs a))) := by
        rw [subI_i64 (by omega)]
        omega
      simp only [hb, List.isEmpty_cons, cond_false, cond_true, Option.bind_some]
      rw [← hb, hneg]
      have d2' : decide (1 + (expD (bs a)).length ≤ 9223372036854775807) = true := d2
      rw [d2']
      cases decide ((b.toNat : Int) = 45) <;> rfl
    · have d1 : decide (((expD (bs a)).length : Int) < 13) = false := decide_eq_false (by omega)
      rw [d1]
      have hN : expN (bs a) = 1099511627776 := by rw [expN, decide_eq_false c]; rfl
      rw [hN, hb]
      cases decide ((b.toNat : Int) = 45) <;> rfl

theorem into9_law {a b : Int} {t : Int} (h : into9F (a, b) = some t) : ∃ k : Nat, into9_b0 a b = some t := by
  obtain ⟨h1, h2⟩ := Option_cond h
  cases h2
  simp only [Bool.and_eq_true, decide_eq_true_eq] at h1
  obtain ⟨⟨⟨h0, hm⟩, hlo⟩, hhi⟩ := h1
  refine ⟨0, ?_⟩
  unfold into9_b0 remI
  have d0 : (!decide (b = 0)) = true := by simp; omega
  rw [d0, cond_true]
  have hb := Int.emod_lt_of_pos a h0
  have hnn := Int.emod_nonneg a (Int.ne_of_gt h0)
  have ht : a.tmod b = a % b ∨ (a.tmod b < 0 ∧ a.tmod b + b = a % b) := by
    by_cases ha : 0 ≤ a
    · exact .inl (Int.tmod_eq_emod_of_nonneg ha)
    · have := @Int.tmod_eq_emod a b
      rw [this]
      split
      · exact .inl (by omega)
      · right
        have hna : (b.natAbs : Int) = b := by omega
        have hne : a % b ≠ 0 := by
          rename_i hx
          intro e
          exact hx (.inr (Int.dvd_of_emod_eq_zero e))
        omega
  rcases ht with ht | ⟨ht, ht2⟩
  · rw [ht, decide_eq_false (by omega)]
    rfl
  · rw [decide_eq_true ht, cond_true, addI_i64 (by omega), ht2]
theorem cut9_law {a : ByteArray} {t : ByteArray} (h : cut9F a = some t) : ∃ k : Nat, cut9_b0 a = some t := by
  cases h
  refine ⟨0, ?_⟩
  unfold cut9_b0
  by_cases c : (a.size : Int) > 300
  · rw [decide_eq_true c, decide_eq_true (by omega : (300 : Int) ≤ (a.size : Int)), ext_sb]
    rfl
  · rw [decide_eq_false c, List.take_of_length_le (by rw [bs_len]; omega)]
    rfl

theorem cutSF_eq {s : ByteArray} {n : Int} {c : UInt8} (hc : bs (strOfI [n]) = [c]) (h : (bs s).length ≤ 1000000) : cutSF (s, strOfI [n]) = some (sb (cutB (bs s) c).1, sb (cutB (bs s) c).2.1, (cutB (bs s) c).2.2) := by
  have : lim s = true := decide_eq_true (by rw [← bs_len]; exact h)
  simp only [cutSF, cutL9F, hc, this, cond_true]
theorem lowerF_eq {s : ByteArray} (h : (bs s).length ≤ 1000000) (ha : asc (bs s) = true) : lowerF s = some (sb (Lib.toLowerA (bs s))) := by
  have : decide (s.size ≤ 140737488355328) = true := decide_eq_true (by rw [← bs_len]; omega)
  simp only [lowerF, ha, this, Bool.and_self, cond_true]
theorem lower_len (l : List UInt8) : (Lib.toLowerA l).length = l.length := by simp [Lib.toLowerA]
theorem cutB_le (l : List UInt8) (c : UInt8) : (cutB l c).1.length + (cutB l c).2.1.length ≤ l.length := by
  have h := congrArg List.length (List.takeWhile_append_dropWhile (p := (· != c)) (l := l))
  simp only [List.length_append] at h
  simp only [cutB, List.length_tail]
  omega
theorem xExpoF_eq {l : List UInt8} (h : l.length ≤ 1000000) (hd : (expD l).all isD = true) : xExpoF (sb l) = some (expV l) := by
  have : lim (sb l) = true := decide_eq_true h
  simp only [xExpoF, this, bs_sb, hd, Bool.and_self, cond_true]

/-- The tail of lex.says, behind the sign: a mantissa and an exponent. -/
theorem says_me {s : ByteArray} {n each : Int} {c : UInt8} (neg : Bool) (k : Int) (hc : bs (strOfI [n]) = [c]) (he : each = 1 ∨ each = 4) (h : (bs s).length ≤ 1000000) (hd : (expD (cutB (bs s) c).2.1).all isD = true) :
    (Option.bind (cutSF (s, strOfI [n])) fun t =>
      Option.bind (cutSF (t.1, strOfI [(46 : Int)])) fun t_1 =>
        bif decide (ByteArray.size t_1.1 + ByteArray.size (Prod.snd t_1).1 ≤ 9223372036854775807) then
          Option.bind (xBaredF (strCat t_1.1 (Prod.snd t_1).1)) fun t_2 =>
            Option.bind (xExpoF (Prod.snd t).1) fun t =>
              Option.bind (xHeldF (subI .i64 t (mulI .i64 each (↑(ByteArray.size (Prod.snd t_1).1) : Int)))) fun t =>
                some [AV.int .i64 k, AV.bool neg, AV.str t_2, AV.int .i64 t, AV.str (strOfI [])]
        else none) =
    some (Nm.to ⟨k, neg, baredL ((cutB (cutB (bs s) c).1 46).1 ++ (cutB (cutB (bs s) c).1 46).2.1), heldI (expV (cutB (bs s) c).2.1 - each * (cutB (cutB (bs s) c).1 46).2.1.length), []⟩) := by
  have l1 := cutB_le (bs s) c
  have l2 := cutB_le (cutB (bs s) c).1 46
  rw [cutSF_eq hc h, Option.bind_some]
  have h2 : cutSF (sb (cutB (bs s) c).1, strOfI [(46 : Int)]) = some (sb (cutB (cutB (bs s) c).1 46).1, sb (cutB (cutB (bs s) c).1 46).2.1, (cutB (cutB (bs s) c).1 46).2.2) := cutSF_eq (s := sb (cutB (bs s) c).1) (c := 46) rfl (by rw [bs_sb]; omega)
  dsimp only
  rw [h2, Option.bind_some]
  dsimp only
  have d1 : decide (ByteArray.size (sb (cutB (cutB (bs s) c).1 46).1) + ByteArray.size (sb (cutB (cutB (bs s) c).1 46).2.1) ≤ 9223372036854775807) = true := decide_eq_true (by
    show (cutB (cutB (bs s) c).1 46).1.length + (cutB (cutB (bs s) c).1 46).2.1.length ≤ _
    omega)
  rw [d1, cond_true, strCat_bs, xExpoF_eq (by omega) hd]
  simp only [xBaredF, Option.bind_some, bs_sb]
  have hb := expV_bound hd
  have hsz : (ByteArray.size (sb (cutB (cutB (bs s) c).1 46).2.1) : Int) = ((cutB (cutB (bs s) c).1 46).2.1.length : Int) := rfl
  have hm : mulI .i64 each ((cutB (cutB (bs s) c).1 46).2.1.length : Int) = each * ((cutB (cutB (bs s) c).1 46).2.1.length : Int) := by
    rcases he with rfl | rfl
    · exact mulI_i64 (by omega)
    · exact mulI_i64 (by omega)
  have hs : subI .i64 (expV (cutB (bs s) c).2.1) (each * ((cutB (cutB (bs s) c).1 46).2.1.length : Int)) = expV (cutB (bs s) c).2.1 - each * ((cutB (cutB (bs s) c).1 46).2.1.length : Int) := by
    rcases he with rfl | rfl
    · exact subI_i64 (by omega)
    · exact subI_i64 (by omega)
  rw [hsz, hm, hs]
  rfl
theorem says_tail {s : ByteArray} (neg : Bool) (b : Int) (h : (bs s).length ≤ 1000000) (ha : asc (bs s) = true) (ho : (decide (b = 3) || ((!(decide (b = 2)) || decide (2 ≤ (bs s).length)) && (expD (mantE (bs s) b).2.1).all isD)) = true) :
    (bif decide (b = (3 : Int)) then
        Option.bind (cutSF (s, strOfI [(47 : Int)])) fun t =>
          Option.bind (xBaredF t.1) fun t_1 =>
            Option.bind (xBaredF (Prod.snd t).1) fun t => some [AV.int .i64 b, AV.bool neg, AV.str t_1, AV.int .i64 (0 : Int), AV.str t]
      else
        Option.bind (lowerF s) fun t =>
          bif decide (b = (2 : Int)) then
            bif decide ((2 : Int) ≤ (↑(ByteArray.size t) : Int)) then
              Option.bind (cutSF (ByteArray.extract t 2 (Int.toNat (↑(ByteArray.size t) : Int)), strOfI [(112 : Int)])) fun t =>
                Option.bind (cutSF (t.1, strOfI [(46 : Int)])) fun t_1 =>
                  bif decide (ByteArray.size t_1.1 + ByteArray.size (Prod.snd t_1).1 ≤ 9223372036854775807) then
                    Option.bind (xBaredF (strCat t_1.1 (Prod.snd t_1).1)) fun t_2 =>
                      Option.bind (xExpoF (Prod.snd t).1) fun t =>
                        Option.bind (xHeldF (subI .i64 t (mulI .i64 (4 : Int) (↑(ByteArray.size (Prod.snd t_1).1) : Int)))) fun t =>
                          some [AV.int .i64 b, AV.bool neg, AV.str t_2, AV.int .i64 t, AV.str (strOfI [])]
                  else none
            else none
          else
            Option.bind (cutSF (t, strOfI [(101 : Int)])) fun t =>
              Option.bind (cutSF (t.1, strOfI [(46 : Int)])) fun t_1 =>
                bif decide (ByteArray.size t_1.1 + ByteArray.size (Prod.snd t_1).1 ≤ 9223372036854775807) then
                  Option.bind (xBaredF (strCat t_1.1 (Prod.snd t_1).1)) fun t_2 =>
                    Option.bind (xExpoF (Prod.snd t).1) fun t =>
                      Option.bind (xHeldF (subI .i64 t (mulI .i64 (1 : Int) (↑(ByteArray.size (Prod.snd t_1).1) : Int)))) fun t =>
                        some [AV.int .i64 b, AV.bool neg, AV.str t_2, AV.int .i64 t, AV.str (strOfI [])]
                else none) = some (saysR (bs s) neg b).to := by
  by_cases k3 : b = 3
  · subst k3
    rw [decide_eq_true rfl, cond_true, cutSF_eq (c := 47) rfl h]
    rfl
  · have d3 : decide (b = 3) = false := decide_eq_false k3
    rw [d3, Bool.false_or, Bool.and_eq_true] at ho
    obtain ⟨ho2, hd⟩ := ho
    rw [d3, cond_false, lowerF_eq h ha, Option.bind_some]
    by_cases k2 : b = 2
    · subst k2
      rw [decide_eq_true rfl] at ho2 ⊢
      have ho2 : 2 ≤ (bs s).length := by simpa using ho2
      have hsz : (sb (Lib.toLowerA (bs s))).size = (bs s).length := lower_len _
      rw [cond_true, decide_eq_true (by rw [hsz]; omega), cond_true]
      have hx : ByteArray.extract (sb (Lib.toLowerA (bs s))) 2 (Int.toNat (↑(ByteArray.size (sb (Lib.toLowerA (bs s)))) : Int)) = sb ((Lib.toLowerA (bs s)).drop 2) := by
        rw [ext_sb, bs_sb, Int.toNat_natCast, hsz, List.take_of_length_le (by rw [lower_len]; exact Nat.le_refl _)]
      rw [hx]
      refine (says_me (s := sb ((Lib.toLowerA (bs s)).drop 2)) (c := 112) neg 2 rfl (.inr rfl) (by rw [bs_sb, List.length_drop, lower_len]; omega) hd).trans ?_
      rfl
    · have d2 : decide (b = 2) = false := decide_eq_false k2
      rw [d2, cond_false]
      rw [mantE, d2, cond_false] at hd
      refine (says_me (s := sb (Lib.toLowerA (bs s))) (c := 101) neg b rfl (.inl rfl) (by rw [bs_sb, lower_len]; exact h) hd).trans ?_
      simp only [saysR, d3, mantE, d2, cond_false, bs_sb]
theorem asc_tail {b : UInt8} {l : List UInt8} (h : asc (b :: l) = true) : asc l = true := by
  simp only [asc, List.all_cons, Bool.and_eq_true] at h
  exact h.2
theorem byteD (b : UInt8) (n : UInt8) : decide ((b.toNat : Int) = (n.toNat : Int)) = (b == n) := by
  by_cases e : b = n
  · subst e; simp
  · have : ¬ ((b.toNat : Int) = (n.toNat : Int)) := fun h => e (UInt8.toNat_inj.1 (by omega))
    simp [e, this]
theorem byteD43 (b : UInt8) : decide ((b.toNat : Int) = 43) = (b == 43) := byteD b 43
theorem byteD45 (b : UInt8) : decide ((b.toNat : Int) = 45) = (b == 45) := byteD b 45
theorem xSays_law {a : ByteArray} {b : Int} {t : List AV} (h : xSaysF (a, b) = some t) : ∃ k : Nat, xSays_b0 a b = some t := by
  obtain ⟨h1, h2⟩ := Option_cond h
  cases h2
  refine ⟨0, ?_⟩
  simp only [saysOk] at h1
  cases hb : bs a with
  | nil => rw [hb] at h1; simp at h1
  | cons c r =>
    rw [Bool.and_eq_true, Bool.and_eq_true, Bool.and_eq_true] at h1
    obtain ⟨⟨⟨_, hasc⟩, hlen⟩, ho⟩ := h1
    have hlen := of_decide_eq_true hlen
    have hs : a.size = r.length + 1 := by rw [← bs_len, hb]; rfl
    have hc : byteAt a 0 = (c.toNat : Int) := byteAt_bs (i := 0) (by rw [hb]; rfl)
    have hr : inRange 0 a.size = true := inR (i := 0) (by omega)
    have d1 : decide ((1 : Int) ≤ (a.size : Int)) = true := decide_eq_true (by omega)
    have hx : ByteArray.extract a 1 (Int.toNat (↑(ByteArray.size a) : Int)) = sb r := by
      rw [ext_sb, Int.toNat_natCast, List.take_of_length_le (by rw [bs_len]; exact Nat.le_refl _), hb]
      rfl
    unfold xSays_b0
    simp only [hr, hc, d1, hx, cond_true, byteD43, byteD45]
    rw [hb] at hasc hlen ho
    have hl2 : r.length ≤ 1000000 := by simp at hlen; omega
    cases c43 : c == 43
    · cases c45 : c == 45
      · have hsl : signless (c :: r) = bs a := by rw [hb]; simp [signless, isS, c43, c45]
        rw [hsl] at ho
        simp only [cond_false]
        refine (says_tail (s := a) false b (by rw [hb]; exact hlen) (by rw [hb]; exact hasc) ho).trans ?_
        rw [← hsl, saysN, negL, c45]
      · have hsl : signless (c :: r) = r := by simp [signless, isS, c45]
        rw [hsl] at ho
        simp only [cond_false, cond_true]
        refine (says_tail (s := sb r) true b hl2 (asc_tail hasc) ho).trans ?_
        rw [bs_sb, saysN, negL, c45, hsl]
    · have c45 : (c == 45) = false := by
        have := eq_of_beq c43
        subst this
        rfl
      have hsl : signless (c :: r) = r := by simp [signless, isS, c43]
      rw [hsl] at ho
      simp only [cond_true, c45]
      refine (says_tail (s := sb r) false b hl2 (asc_tail hasc) ho).trans ?_
      rw [bs_sb, saysN, negL, c45, hsl]

theorem Nm.eta (n : Nm) : [AV.int .i64 (AV.toInt (aget n.to 0)), AV.bool (AV.toBool (aget n.to 1)), AV.str (AV.toStr (aget n.to 2)), AV.int .i64 (AV.toInt (aget n.to 3)), AV.str (AV.toStr (aget n.to 4))] = n.to := Eq.trans rfl rfl
theorem Nm.of_to (n : Nm) : Nm.of n.to = n := Eq.trans rfl rfl
theorem noNm_to : [AV.int .i64 (0 : Int), AV.bool false, AV.str (strOfI []), AV.int .i64 (0 : Int), AV.str (strOfI [])] = noNm.to := Eq.trans rfl rfl
theorem xScan_law {a : ByteArray} {b : Int} {t : List AV × Int × Option (Int × Int)} (h : xScanF (a, b) = some t) : ∃ k : Nat, xScan_b0 a b = some t := by
  obtain ⟨h1, h2⟩ := Option_cond h
  cases h2
  refine ⟨0, ?_⟩
  unfold xScan_b0
  simp only [wrapF, Option.bind_some, noNm_to]
  simp only [scanOk, Bool.and_eq_true] at h1
  obtain ⟨hl, ho⟩ := h1
  have hl := of_decide_eq_true hl
  have hsz : (a.size : Int) = ((bs a).length : Int) := rfl
  rw [hsz]
  by_cases c1 : b < 0
  · have d : (decide (0 ≤ b) && decide (b ≤ ((bs a).length : Int))) = false := by rw [decide_eq_false (by omega)]; rfl
    rw [decide_eq_true c1, cond_true]
    simp only [scanN, d, cond_false]
  · by_cases c2 : b > ((bs a).length : Int)
    · have d : (decide (0 ≤ b) && decide (b ≤ ((bs a).length : Int))) = false := by rw [decide_eq_false (p := b ≤ ((bs a).length : Int)) (by omega), Bool.and_false]
      rw [decide_eq_false c1, decide_eq_true c2, cond_true, cond_false]
      simp only [scanN, d, cond_false]
    · have d1 : decide (0 ≤ b) = true := decide_eq_true (by omega)
      have d2 : decide (b ≤ ((bs a).length : Int)) = true := decide_eq_true (by omega)
      rw [decide_eq_false c1, decide_eq_false c2, d1, d2]
      simp only [cond_true, cond_false]
      have hx : ByteArray.extract a (Int.toNat b) (Int.toNat ((bs a).length : Int)) = sb ((bs a).drop b.toNat) := by
        rw [ext_sb, Int.toNat_natCast, List.take_length]
      have hlong : longF (sb ((bs a).drop b.toNat)) = some (long ((bs a).drop b.toNat)) := by
        have : decide ((sb ((bs a).drop b.toNat)).size ≤ 9223372036854775807) = true := decide_eq_true (by
          show ((bs a).drop b.toNat).length ≤ _
          rw [List.length_drop]
          omega)
        simp only [longF, this, cond_true]
        rfl
      rw [hx, hlong, Option.bind_some]
      simp only [d1, d2, Bool.and_self, Bool.not_true, Bool.false_or] at ho
      simp only [scanN, d1, d2, Bool.and_self, cond_true]
      by_cases k0 : (long ((bs a).drop b.toNat)).1 = 0
      · rw [decide_eq_true k0]
        simp only [cond_true]
      · rw [decide_eq_false k0, Bool.false_or, Bool.and_eq_true, Bool.and_eq_true] at ho
        obtain ⟨⟨ho, hn⟩, hm⟩ := ho
        have hn := of_decide_eq_true hn
        have hm := of_decide_eq_true hm
        rw [List.length_drop] at hm
        have ha : addI .i64 b (long ((bs a).drop b.toNat)).2 = b + (long ((bs a).drop b.toNat)).2 := addI_i64 (by omega)
        rw [decide_eq_false k0, ha, decide_eq_true (p := b ≤ b + (long ((bs a).drop b.toNat)).2) (by omega), decide_eq_true (p := b + (long ((bs a).drop b.toNat)).2 ≤ ((bs a).length : Int)) (by omega)]
        simp only [cond_true, cond_false]
        have hx2 : ByteArray.extract a (Int.toNat b) (Int.toNat (b + (long ((bs a).drop b.toNat)).2)) = sb (((bs a).drop b.toNat).take (long ((bs a).drop b.toNat)).2.toNat) := by
          rw [ext_sb, List.drop_take]
          congr 2
          omega
        rw [hx2]
        have hs : xSaysF (sb (((bs a).drop b.toNat).take (long ((bs a).drop b.toNat)).2.toNat), (long ((bs a).drop b.toNat)).1) = some (saysN (((bs a).drop b.toNat).take (long ((bs a).drop b.toNat)).2.toNat) (long ((bs a).drop b.toNat)).1).to := by
          simp only [xSaysF, bs_sb, ho, cond_true]
        rw [hs, Option.bind_some, Nm.eta]
theorem xScanF_0 {l : List UInt8} {b : Int} (h : scanOk l b = true) : xScanF (sb l, b) = some ((scanN l b).1.to, (scanN l b).2.1, (scanN l b).2.2) := by
  simp only [xScanF, bs_sb, h, cond_true]
theorem scan_end {l : List UInt8} (h : scanOk l 0 = true) (hn : (scanN l 0).2.2 = none) : 0 ≤ (scanN l 0).2.1 ∧ (scanN l 0).2.1 ≤ l.length := by
  simp only [scanOk, Bool.and_eq_true] at h
  obtain ⟨hl, ho⟩ := h
  have d2 : decide ((0 : Int) ≤ (l.length : Int)) = true := decide_eq_true (by omega)
  have d1 : decide ((0 : Int) ≤ 0) = true := rfl
  simp only [d2, d1, Bool.and_self, Bool.not_true, Bool.false_or] at ho
  simp only [scanN, d1, d2, Bool.and_self, cond_true] at hn ⊢
  by_cases k0 : (long (l.drop (0 : Int).toNat)).1 = 0
  · rw [decide_eq_true k0] at hn
    simp at hn
  · rw [decide_eq_false k0, Bool.false_or, Bool.and_eq_true, Bool.and_eq_true] at ho
    obtain ⟨⟨ho, hn⟩, hm⟩ := ho
    have hn := of_decide_eq_true hn
    have hm := of_decide_eq_true hm
    rw [decide_eq_false k0]
    simp only [cond_false]
    have hz : (0 : Int).toNat = 0 := rfl
    rw [hz, List.drop_zero] at hn hm ⊢
    omega
theorem xParse_law {a : ByteArray} {t : List AV × Option (Int × Int)} (h : xParseF a = some t) : ∃ k : Nat, xParse_b0 a = some t := by
  obtain ⟨h1, h2⟩ := Option_cond h
  cases h2
  refine ⟨0, ?_⟩
  unfold xParse_b0
  have hs := xScanF_0 h1
  rw [sb_bs] at hs
  rw [hs, Option.bind_some]
  dsimp only
  rw [noNm_to, Nm.eta]
  simp only [wrapF, Option.bind_some]
  have hse := scan_end h1
  generalize hS : scanN (bs a) 0 = S at hse ⊢
  obtain ⟨n, e, r⟩ := S
  rw [parseN, hS]
  cases r with
  | some e' => rfl
  | none =>
    obtain ⟨q1, q2⟩ := hse rfl
    dsimp only at q1 q2 ⊢
    have : errSome none = false := rfl
    rw [this, cond_false]
    obtain ⟨i, rfl⟩ : ∃ i : Nat, e = (i : Int) := ⟨e.toNat, by omega⟩
    have hsz : (a.size : Int) = ((bs a).length : Int) := rfl
    simp only [parseS, Int.toNat_natCast]
    cases hd : (bs a).drop i with
    | nil =>
      have : (bs a).length ≤ i := by simpa using hd
      rw [decide_eq_true (by rw [hsz]; omega), cond_true]
    | cons c l =>
      have hlt : i < (bs a).length := by
        refine Nat.lt_of_not_le fun hle => ?_
        rw [List.drop_of_length_le hle] at hd
        cases hd
      have hc : (bs a)[i]? = some c := by
        have := congrArg (fun z => z[0]?) hd
        simpa using this
      rw [decide_eq_false (by rw [hsz]; omega), cond_false, inR (by rw [← bs_len]; exact hlt), byteAt_bs hc, byteD43, byteD45]
      simp only [cond_true]
      have hix : idxBF (strOfI [(101 : Int), (69 : Int), (112 : Int), (80 : Int)], (c.toNat : Int)) = some (Lib.indexByte [101, 69, 112, 80] c) := by
        simp only [idxBF]
        congr 2
        simp
      rw [hix, Option.bind_some, ixB]
      cases c43 : c == 43
      · cases c45 : c == 45
        · cases hcc : ([101, 69, 112, 80] : List UInt8).contains c <;> simp [isS, c43, c45]
        · simp [isS, c45]
      · simp [isS, c43]
theorem cutL9_ok : CtrOk Go.Proofs.Tryz.prog 176 (mkF [.str, .str] [.str, .str, .bool] cutL9F) := by
  refine mkF_ok (c := bodyOf Go.Proofs.Tryz.f176) (tab := S.tab) (cts := [(211, mkF [.str, .str] [.int .i64] idx1F)]) (res := [4, 5, 6]) tab_ok hm ⟨idx1_ok, trivial⟩ Go.Proofs.Tryz.func176 (by kernel_rfl) (by kernel_rfl) (by kernel_rfl) (by kernel_rfl) (by kernel_rfl) ?_
  rintro ⟨a, b⟩ t h
  obtain ⟨k, hk⟩ := cutL9_law h
  exact ⟨cutL9_h, 3000, k, (cutL9_ev k a b).trans hk⟩

theorem cutS_ok : CtrOk Go.Proofs.Tryz.prog 134 (mkF [.str, .str] [.str, .str, .bool] cutSF) := by
  refine mkF_ok (c := bodyOf Go.Proofs.Tryz.f134) (tab := S.tab) (cts := [(176, mkF [.str, .str] [.str, .str, .bool] cutL9F)]) (res := [4, 5, 6]) tab_ok hm ⟨cutL9_ok, trivial⟩ Go.Proofs.Tryz.func134 (by kernel_rfl) (by kernel_rfl) (by kernel_rfl) (by kernel_rfl) (by kernel_rfl) ?_
  rintro ⟨a, b⟩ t h
  obtain ⟨k, hk⟩ := cutS_law h
  exact ⟨cutS_h, 3000, k, (cutS_ev k a b).trans hk⟩

theorem xDigit_ok : CtrOk Go.Proofs.Tryz.prog 131 (mkF [.int .u8] [.bool] xDigitF) := by
  refine mkF_ok (c := bodyOf Go.Proofs.Tryz.f131) (tab := S.tab) (cts := []) (res := [2]) tab_ok hm trivial Go.Proofs.Tryz.func131 (by kernel_rfl) (by kernel_rfl) (by kernel_rfl) (by kernel_rfl) (by kernel_rfl) ?_
  rintro a t h
  obtain ⟨k, hk⟩ := xDigit_law h
  exact ⟨xDigit_h, 3000, k, (xDigit_ev k a).trans hk⟩

theorem xPlain_ok : CtrOk Go.Proofs.Tryz.prog 75 (mkF [.str, .bool] [.bool] xPlainF) := by
  refine mkF_ok (c := bodyOf Go.Proofs.Tryz.f75) (tab := S.tab) (cts := [(131, mkF [.int .u8] [.bool] xDigitF)]) (res := [4]) tab_ok hm ⟨xDigit_ok, trivial⟩ Go.Proofs.Tryz.func75 (by kernel_rfl) (by kernel_rfl) (by kernel_rfl) (by kernel_rfl) (by kernel_rfl) ?_
  rintro ⟨a, b⟩ t h
  obtain ⟨k, hk⟩ := xPlain_law h
  exact ⟨xPlain_h, 3000, k, (xPlain_ev k a b).trans hk⟩

theorem xHeld_ok : CtrOk Go.Proofs.Tryz.prog 76 (mkF [.int .i64] [.int .i64] xHeldF) := by
  refine mkF_ok (c := bodyOf Go.Proofs.Tryz.f76) (tab := S.tab) (cts := []) (res := [2]) tab_ok hm trivial Go.Proofs.Tryz.func76 (by kernel_rfl) (by kernel_rfl) (by kernel_rfl) (by kernel_rfl) (by kernel_rfl) ?_
  rintro a t h
  obtain ⟨k, hk⟩ := xHeld_law h
  exact ⟨xHeld_h, 3000, k, (xHeld_ev k a).trans hk⟩

theorem xCheck_ok : CtrOk Go.Proofs.Tryz.prog 25 (mkF [.st [.int .i64, .bool, .str, .int .i64, .str]] [.int .i64] xCheckF) := by
  refine mkF_ok (c := bodyOf Go.Proofs.Tryz.f25) (tab := S.tab) (cts := [(75, mkF [.str, .bool] [.bool] xPlainF), (76, mkF [.int .i64] [.int .i64] xHeldF)]) (res := [2]) tab_ok hm ⟨xPlain_ok, xHeld_ok, trivial⟩ Go.Proofs.Tryz.func25 (by kernel_rfl) (by kernel_rfl) (by kernel_rfl) (by kernel_rfl) (by kernel_rfl) ?_
  rintro a t h
  obtain ⟨k, hk⟩ := xCheck_law h
  exact ⟨xCheck_h, 3000, k, (xCheck_ev k a).trans hk⟩

theorem xSome_ok : CtrOk Go.Proofs.Tryz.prog 63 (mkF [.str] [.str] xSomeF) := by
  refine mkF_ok (c := bodyOf Go.Proofs.Tryz.f63) (tab := S.tab) (cts := []) (res := [2]) tab_ok hm trivial Go.Proofs.Tryz.func63 (by kernel_rfl) (by kernel_rfl) (by kernel_rfl) (by kernel_rfl) (by kernel_rfl) ?_
  rintro a t h
  obtain ⟨k, hk⟩ := xSome_law h
  exact ⟨xSome_h, 3000, k, (xSome_ev k a).trans hk⟩

theorem xBared_ok : CtrOk Go.Proofs.Tryz.prog 135 (mkF [.str] [.str] xBaredF) := by
  refine mkF_ok (c := bodyOf Go.Proofs.Tryz.f135) (tab := S.tab) (cts := [(177, mkF [.str, .str] [.str] trimLF)]) (res := [2]) tab_ok hm ⟨trimL_ok, trivial⟩ Go.Proofs.Tryz.func135 (by kernel_rfl) (by kernel_rfl) (by kernel_rfl) (by kernel_rfl) (by kernel_rfl) ?_
  rintro a t h
  obtain ⟨k, hk⟩ := xBared_law h
  exact ⟨xBared_h, 3000, k, (xBared_ev k a).trans hk⟩

theorem xExpo_ok : CtrOk Go.Proofs.Tryz.prog 137 (mkF [.str] [.int .i64] xExpoF) := by
  refine mkF_ok (c := bodyOf Go.Proofs.Tryz.f137) (tab := S.tab) (cts := [(135, mkF [.str] [.str] xBaredF), (177, mkF [.str, .str] [.str] trimLF), (181, mkF [.str] [.int .i64, .err] atoiF)]) (res := [2]) tab_ok hm ⟨xBared_ok, trimL_ok, atoi_ok, trivial⟩ Go.Proofs.Tryz.func137 (by kernel_rfl) (by kernel_rfl) (by kernel_rfl) (by kernel_rfl) (by kernel_rfl) ?_
  rintro a t h
  obtain ⟨k, hk⟩ := xExpo_law h
  exact ⟨xExpo_h, 3000, k, (xExpo_ev k a).trans hk⟩

theorem xSays_ok : CtrOk Go.Proofs.Tryz.prog 81 (mkF [.str, .int .i64] [.st [.int .i64, .bool, .str, .int .i64, .str]] xSaysF) := by
  refine mkR_ok (c := bodyOf Go.Proofs.Tryz.f81) (tab := S.tab) (cts := [(135, mkF [.str] [.str] xBaredF), (134, mkF [.str, .str] [.str, .str, .bool] cutSF), (136, mkF [.str] [.str] lowerF), (137, mkF [.str] [.int .i64] xExpoF), (76, mkF [.int .i64] [.int .i64] xHeldF)]) (res := [.cell 4 23]) tab_ok hm ⟨xBared_ok, cutS_ok, lower_ok, xExpo_ok, xHeld_ok, trivial⟩ Go.Proofs.Tryz.func81 (by kernel_rfl) (by kernel_rfl) (by kernel_rfl) (by kernel_rfl) (by kernel_rfl) ?_
  rintro ⟨a, b⟩ t h
  obtain ⟨k, hk⟩ := xSays_law h
  exact ⟨xSays_h, 3000, k, (xSays_ev k a b).trans hk⟩

theorem xScan_ok : CtrOk Go.Proofs.Tryz.prog 29 (mkF [.str, .int .i64] [.st [.int .i64, .bool, .str, .int .i64, .str], .int .i64, .err] xScanF) := by
  refine mkR_ok (c := bodyOf Go.Proofs.Tryz.f29) (tab := S.tab) (cts := [(79, mkF [.int .i64, .int .i64] [.err] wrapF), (80, mkF [.str] [.int .i64, .int .i64] longF), (81, mkF [.str, .int .i64] [.st [.int .i64, .bool, .str, .int .i64, .str]] xSaysF)]) (res := [.cell 4 23, .tmp 5, .tmp 6]) tab_ok hm ⟨wrap_ok, long_ok, xSays_ok, trivial⟩ Go.Proofs.Tryz.func29 (by kernel_rfl) (by kernel_rfl) (by kernel_rfl) (by kernel_rfl) (by kernel_rfl) ?_
  rintro ⟨a, b⟩ t h
  obtain ⟨k, hk⟩ := xScan_law h
  exact ⟨xScan_h, 3000, k, (xScan_ev k a b).trans hk⟩

theorem xParse_ok : CtrOk Go.Proofs.Tryz.prog 32 (mkF [.str] [.st [.int .i64, .bool, .str, .int .i64, .str], .err] xParseF) := by
  refine mkR_ok (c := bodyOf Go.Proofs.Tryz.f32) (tab := S.tab) (cts := [(29, mkF [.str, .int .i64] [.st [.int .i64, .bool, .str, .int .i64, .str], .int .i64, .err] xScanF), (79, mkF [.int .i64, .int .i64] [.err] wrapF), (85, mkF [.str, .int .u8] [.int .i64] idxBF)]) (res := [.cell 2 23, .tmp 3]) tab_ok hm ⟨xScan_ok, wrap_ok, idxB_ok, trivial⟩ Go.Proofs.Tryz.func32 (by kernel_rfl) (by kernel_rfl) (by kernel_rfl) (by kernel_rfl) (by kernel_rfl) ?_
  rintro a t h
  obtain ⟨k, hk⟩ := xParse_law h
  exact ⟨xParse_h, 3000, k, (xParse_ev k a).trans hk⟩

theorem into9_ok : CtrOk Go.Proofs.Tryz.prog 28 (mkF [.int .i64, .int .i64] [.int .i64] into9F) := by
  refine mkF_ok (c := bodyOf Go.Proofs.Tryz.f28) (tab := S.tab) (cts := []) (res := [4]) tab_ok hm trivial Go.Proofs.Tryz.func28 (by kernel_rfl) (by kernel_rfl) (by kernel_rfl) (by kernel_rfl) (by kernel_rfl) ?_
  rintro ⟨a, b⟩ t h
  obtain ⟨k, hk⟩ := into9_law h
  exact ⟨into9_h, 3000, k, (into9_ev k a b).trans hk⟩

theorem cut9_ok : CtrOk Go.Proofs.Tryz.prog 20 (mkF [.str] [.str] cut9F) := by
  refine mkF_ok (c := bodyOf Go.Proofs.Tryz.f20) (tab := S.tab) (cts := []) (res := [2]) tab_ok hm trivial Go.Proofs.Tryz.func20 (by kernel_rfl) (by kernel_rfl) (by kernel_rfl) (by kernel_rfl) (by kernel_rfl) ?_
  rintro a t h
  obtain ⟨k, hk⟩ := cut9_law h
  exact ⟨cut9_h, 3000, k, (cut9_ev k a).trans hk⟩

end Go.RX.S
