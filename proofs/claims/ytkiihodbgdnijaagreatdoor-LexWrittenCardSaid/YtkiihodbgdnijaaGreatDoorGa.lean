/- The grammar: what the reader of numerals takes, told by pieces. -/
import Derived.Test.YtkiihodbgdnijaaGreatDoorKe
import Derived.Test.YtkiihodbgdnijaaGreatDoorSi
set_option linter.unusedVariables false
set_option linter.unusedSimpArgs false
namespace Go.RX.S
open Go Go.RX Go.Proofs

theorem b0_f {α : Type} [BEq α] [LawfulBEq α] {a b : α} (h : a ≠ b) : (a == b) = false := beq_eq_false_iff_ne.2 h
theorem b0_t {α : Type} [BEq α] [LawfulBEq α] {a b : α} (h : a = b) : (a == b) = true := beq_iff_eq.2 h
theorem ne_b0 {α : Type} [BEq α] [LawfulBEq α] {a b : α} (h : (a == b) = false) : a ≠ b := beq_eq_false_iff_ne.1 h
def gg (l : List UInt8) (f : Nat) (i : Int) (a : Int × Int) : Int × Int := lgo (l.map fun b => (b.toNat : Int)) f i a
theorem gg_nil (f : Nat) (i : Int) (a : Int × Int) : gg [] f i a = a := rfl
theorem step_none {f : Nat} {b : UInt8} {l : List UInt8} (h : nx f (b.toNat : Int) = (none, 0)) (i : Int) (a : Int × Int) : gg (b :: l) f i a = a := by
  unfold gg
  rw [List.map_cons, lgo, h]
theorem step_some {f f' : Nat} {k : Int} {b : UInt8} {l : List UInt8} (h : nx f (b.toNat : Int) = (some f', k)) (i : Int) (a : Int × Int) : gg (b :: l) f i a = gg l f' (i + 1) (if k ≠ 0 then (k, i + 1) else a) := by
  unfold gg
  rw [List.map_cons, lgo, h]
theorem step_same {f f' : Nat} {b : UInt8} {l : List UInt8} (h : nx f (b.toNat : Int) = nx f' (b.toNat : Int)) (i : Int) (a : Int × Int) : gg (b :: l) f i a = gg (b :: l) f' i a := by
  unfold gg
  rw [List.map_cons, lgo, lgo, h]
theorem gg_keep {f : Nat} {k : Int} {P : UInt8 → Bool} (hf : ∀ b, P b = true → nx f (b.toNat : Int) = (some f, k)) (hk : k ≠ 0) : ∀ (l : List UInt8) (i : Int) (a : Int × Int),
    gg l f i a = gg (l.dropWhile P) f (i + (l.takeWhile P).length) (cond (l.takeWhile P).isEmpty a (k, i + (l.takeWhile P).length))
  | [], i, a => by simp
  | b :: l, i, a => by
    cases hb : P b
    · simp [List.takeWhile_cons, List.dropWhile_cons, hb]
    · rw [step_some (hf b hb), if_pos hk, gg_keep hf hk l (i + 1) (k, i + 1)]
      rw [List.takeWhile_cons, List.dropWhile_cons, hb]
      simp only [if_true, List.length_cons, List.isEmpty_cons, cond_false]
      have e : i + 1 + ((l.takeWhile P).length : Int) = i + ((l.takeWhile P).length + 1 : Nat) := by omega
      rw [e]
      cases ht : l.takeWhile P with
      | nil => simp
      | cons c t => simp
theorem gg_pass {f : Nat} {P : UInt8 → Bool} (hf : ∀ b, P b = true → nx f (b.toNat : Int) = (some f, 0)) : ∀ (l : List UInt8) (i : Int) (a : Int × Int),
    gg l f i a = gg (l.dropWhile P) f (i + (l.takeWhile P).length) a
  | [], i, a => by simp
  | b :: l, i, a => by
    cases hb : P b
    · simp [List.takeWhile_cons, List.dropWhile_cons, hb]
    · rw [step_some (hf b hb), if_neg (by decide), gg_pass hf l (i + 1) a]
      rw [List.takeWhile_cons, List.dropWhile_cons, hb]
      simp only [if_true, List.length_cons]
      have e : i + 1 + ((l.takeWhile P).length : Int) = i + ((l.takeWhile P).length + 1 : Nat) := by omega
      rw [e]
theorem dw_head {P : UInt8 → Bool} : ∀ {l : List UInt8} {b : UInt8} {r : List UInt8}, l.dropWhile P = b :: r → P b = false
  | [], b, r, h => by cases h
  | c :: l, b, r, h => by
    rw [List.dropWhile_cons] at h
    cases hc : P c
    · rw [hc] at h
      cases h
      exact hc
    · rw [hc] at h
      exact dw_head h

theorem dg_D (b : UInt8) : dg (b.toNat : Int) = isD b := by
  rw [Bool.eq_iff_iff]
  simp only [dg, isD, decide_eq_true_eq, Bool.and_eq_true]
  omega
def hexN (n : Nat) : Bool := (decide (48 ≤ n) && decide (n ≤ 57)) || (decide (97 ≤ n) && decide (n ≤ 102)) || (decide (65 ≤ n) && decide (n ≤ 70))
theorem hx_fin : ∀ n : Fin 256, hx ((n.val : Nat) : Int) = hexN n.val := by decide +kernel
theorem hx_X (b : UInt8) : hx (b.toNat : Int) = hexB b := hx_fin ⟨b.toNat, b.toNat_lt⟩
theorem ieq (b c : UInt8) : ((b.toNat : Int) = (c.toNat : Int)) ↔ b = c := by
  constructor
  · intro h
    exact UInt8.toNat_inj.1 (by omega)
  · rintro rfl
    rfl
theorem is_S (b : UInt8) : ((b.toNat : Int) = 43 ∨ (b.toNat : Int) = 45) ↔ isS b = true := by
  have h1 := ieq b 43
  have h2 := ieq b 45
  simp only [isS, Bool.or_eq_true, beq_iff_eq]
  exact or_congr h1 h2
theorem is_2 (b x y : UInt8) : ((b.toNat : Int) = (x.toNat : Int) ∨ (b.toNat : Int) = (y.toNat : Int)) ↔ (b == x || b == y) = true := by
  simp only [Bool.or_eq_true, beq_iff_eq]
  exact or_congr (ieq b x) (ieq b y)

/-! ### exponents -/
def sgn (l : List UInt8) : Nat := match l with
  | b :: _ => cond (isS b) 1 0
  | [] => 0
/-- An exponent's sign and digits, behind its letter (none: empty). -/
def expTxt (l : List UInt8) : List UInt8 := cond ((l.drop (sgn l)).takeWhile isD).isEmpty [] (l.take (sgn l) ++ (l.drop (sgn l)).takeWhile isD)
/-- The same, with its letter ahead. -/
def expo (x y : UInt8) (l : List UInt8) : List UInt8 := match l with
  | b :: r => cond (b == x || b == y) (expTxt r) []
  | [] => []
def eLen (x y : UInt8) (l : List UInt8) : Nat := cond (expo x y l).isEmpty 0 (1 + (expo x y l).length)

theorem gg_digits {f : Nat} {k : Int} (hs : ∀ b, isD b = true → nx f (b.toNat : Int) = (some f, k)) (hn : ∀ b, isD b = false → nx f (b.toNat : Int) = (none, 0)) (hk : k ≠ 0) (l : List UInt8) (i : Int) (a : Int × Int) :
    gg l f i a = cond (l.takeWhile isD).isEmpty a (k, i + (l.takeWhile isD).length) := by
  rw [gg_keep hs hk]
  cases hr : l.dropWhile isD with
  | nil => rw [gg_nil]
  | cons b r => rw [step_none (hn b (dw_head hr))]
theorem nx_exp (b : UInt8) : nx 261 (b.toNat : Int) = if isD b = true then (some 261, 1) else (none, 0) := by
  show nx_expSigned _ = _
  rw [nx_expSigned, dg_D]
theorem nx_pow (b : UInt8) : nx 277 (b.toNat : Int) = if isD b = true then (some 277, 2) else (none, 0) := by
  show nx_powSigned _ = _
  rw [nx_powSigned, dg_D]
theorem nx_und (b : UInt8) : nx 235 (b.toNat : Int) = if isD b = true then (some 235, 3) else (none, 0) := by
  show nx_under _ = _
  rw [nx_under, dg_D]
theorem gg_exp (l : List UInt8) (i : Int) (a : Int × Int) : gg l 261 i a = cond (l.takeWhile isD).isEmpty a (1, i + (l.takeWhile isD).length) :=
  gg_digits (fun b h => by rw [nx_exp, if_pos h]) (fun b h => by rw [nx_exp, if_neg (by rw [h]; decide)]) (by decide) l i a
theorem gg_pow (l : List UInt8) (i : Int) (a : Int × Int) : gg l 277 i a = cond (l.takeWhile isD).isEmpty a (2, i + (l.takeWhile isD).length) :=
  gg_digits (fun b h => by rw [nx_pow, if_pos h]) (fun b h => by rw [nx_pow, if_neg (by rw [h]; decide)]) (by decide) l i a
theorem gg_und (l : List UInt8) (i : Int) (a : Int × Int) : gg l 235 i a = cond (l.takeWhile isD).isEmpty a (3, i + (l.takeWhile isD).length) :=
  gg_digits (fun b h => by rw [nx_und, if_pos h]) (fun b h => by rw [nx_und, if_neg (by rw [h]; decide)]) (by decide) l i a
theorem nx_expB (b : UInt8) : nx 234 (b.toNat : Int) = if isS b = true then (some 261, 0) else nx 261 (b.toNat : Int) := by
  show nx_expBegin _ = ite _ _ (nx_expSigned _)
  rw [nx_expBegin]
  simp only [is_S]
theorem nx_powB (b : UInt8) : nx 273 (b.toNat : Int) = if isS b = true then (some 277, 0) else nx 277 (b.toNat : Int) := by
  show nx_powBegin _ = ite _ _ (nx_powSigned _)
  rw [nx_powBegin]
  simp only [is_S]
theorem gg_signs {f f' : Nat} {k : Int} (hB : ∀ b : UInt8, nx f (b.toNat : Int) = if isS b = true then (some f', 0) else nx f' (b.toNat : Int)) (hd : ∀ l i a, gg l f' i a = cond (l.takeWhile isD).isEmpty a (k, i + (l.takeWhile isD).length)) (l : List UInt8) (i : Int) (a : Int × Int) :
    gg l f i a = cond (expTxt l).isEmpty a (k, i + (expTxt l).length) := by
  cases l with
  | nil => rfl
  | cons b l =>
    cases hs : isS b
    · rw [step_same (f' := f') (by rw [hB, if_neg (by rw [hs]; decide)]), hd]
      have e : sgn (b :: l) = 0 := by simp [sgn, hs]
      rw [expTxt, e]
      simp only [List.drop_zero, List.take_zero, List.nil_append]
      cases ((b :: l).takeWhile isD) <;> rfl
    · rw [step_some (f' := f') (k := 0) (by rw [hB, if_pos hs]), if_neg (by decide), hd]
      have e : sgn (b :: l) = 1 := by simp [sgn, hs]
      rw [expTxt, e]
      simp only [List.drop_succ_cons, List.drop_zero, List.take_succ_cons, List.take_zero]
      cases (l.takeWhile isD) with
      | nil => rfl
      | cons c t =>
        simp only [List.isEmpty_cons, cond_false, List.cons_append, List.nil_append, List.length_cons]
        congr 1
        omega
theorem gg_expB (l : List UInt8) (i : Int) (a : Int × Int) : gg l 234 i a = cond (expTxt l).isEmpty a (1, i + (expTxt l).length) := gg_signs nx_expB gg_exp l i a
theorem gg_powB (l : List UInt8) (i : Int) (a : Int × Int) : gg l 273 i a = cond (expTxt l).isEmpty a (2, i + (expTxt l).length) := gg_signs nx_powB gg_pow l i a

/-! ### mantissas -/
/-- Digits with at most one point: those ahead of it, whether it stands there, those behind it, and what is left. -/
def parts (P : UInt8 → Bool) (l : List UInt8) : List UInt8 × Bool × List UInt8 × List UInt8 := match l.dropWhile P with
  | b :: r => cond (b == 46 && !((l.takeWhile P).isEmpty && (r.takeWhile P).isEmpty)) (l.takeWhile P, true, r.takeWhile P, r.dropWhile P) (l.takeWhile P, false, [], b :: r)
  | [] => (l.takeWhile P, false, [], [])
def pLen (p : List UInt8 × Bool × List UInt8 × List UInt8) : Nat := p.1.length + cond p.2.1 (1 + p.2.2.1.length) 0
def decLen (l : List UInt8) : Nat := cond ((pLen (parts isD l) == 0)) 0 (pLen (parts isD l) + eLen 101 69 (parts isD l).2.2.2)
def hexLen0 (l : List UInt8) : Nat := cond ((pLen (parts hexB l) == 0)) 0 (cond ((eLen 112 80 (parts hexB l).2.2.2 == 0)) 0 (2 + pLen (parts hexB l) + eLen 112 80 (parts hexB l).2.2.2))
def hexLen (l : List UInt8) : Nat := match l with
  | z :: x :: r => cond (z == 48 && (x == 120 || x == 88)) (hexLen0 r) 0
  | _ => 0
def ratLen (l : List UInt8) : Nat := match l.dropWhile isD with
  | b :: r => cond (b == 47 && !((l.takeWhile isD).isEmpty || (r.takeWhile isD).isEmpty)) ((l.takeWhile isD).length + 1 + (r.takeWhile isD).length) 0
  | [] => 0

theorem tail_e {f f' : Nat} {k : Int} {x y : UInt8} {P : UInt8 → Bool} (hn : ∀ b : UInt8, P b = false → nx f (b.toNat : Int) = if (b == x || b == y) = true then (some f', 0) else (none, 0)) (hB : ∀ l i a, gg l f' i a = cond (expTxt l).isEmpty a (k, i + (expTxt l).length))
    {r : List UInt8} (hr : ∀ b r', r = b :: r' → P b = false) (i : Int) (a : Int × Int) : gg r f i a = cond ((eLen x y r == 0)) a (k, i + eLen x y r) := by
  cases r with
  | nil => rfl
  | cons b r =>
    have h0 := hn b (hr b r rfl)
    cases hb : (b == x || b == y)
    · rw [step_none (by rw [h0, if_neg (by rw [hb]; decide)])]
      have : eLen x y (b :: r) = 0 := by simp [eLen, expo, hb]
      rw [this]
      rfl
    · rw [step_some (f' := f') (k := 0) (by rw [h0, if_pos hb]), if_neg (by decide), hB]
      have : eLen x y (b :: r) = cond (expTxt r).isEmpty 0 (1 + (expTxt r).length) := by simp [eLen, expo, hb]
      rw [this]
      cases (expTxt r) with
      | nil => rfl
      | cons c t =>
        simp only [List.isEmpty_cons, cond_false, List.length_cons]
        rw [b0_f (by omega)]
        simp only [cond_false]
        congr 1
        omega
theorem nx_fr (b : UInt8) (h : isD b = false) : nx 233 (b.toNat : Int) = if (b == 101 || b == 69) = true then (some 234, 0) else (none, 0) := by
  show nx_fraction _ = _
  rw [nx_fraction, dg_D, h, if_neg (by decide)]
  simp only [← is_2]
  rfl
theorem nx_hf (b : UInt8) (h : hexB b = false) : nx 272 (b.toNat : Int) = if (b == 112 || b == 80) = true then (some 273, 0) else (none, 0) := by
  show nx_hexFraction _ = _
  rw [nx_hexFraction, hx_X, h, if_neg (by decide)]
  simp only [← is_2]
  rfl
theorem gg_fraction (l : List UInt8) (i : Int) : gg l 233 i (1, i) = (1, i + (l.takeWhile isD).length + eLen 101 69 (l.dropWhile isD)) := by
  rw [gg_keep (P := isD) (fun b h => by
    show nx_fraction _ = _
    rw [nx_fraction, dg_D, if_pos h]) (by decide)]
  have ha : cond (l.takeWhile isD).isEmpty ((1 : Int), i) (1, i + (l.takeWhile isD).length) = (1, i + (l.takeWhile isD).length) := by
    cases l.takeWhile isD <;> simp
  rw [ha, tail_e nx_fr gg_expB (fun b r' h => dw_head h)]
  cases h : (eLen 101 69 (l.dropWhile isD) == 0)
  · rfl
  · rw [eq_of_beq h]
    simp
theorem gg_hexFraction (l : List UInt8) (i : Int) (a : Int × Int) : gg l 272 i a = cond ((eLen 112 80 (l.dropWhile hexB) == 0)) a (2, i + (l.takeWhile hexB).length + eLen 112 80 (l.dropWhile hexB)) := by
  rw [gg_pass (P := hexB) (fun b h => by
    show nx_hexFraction _ = _
    rw [nx_hexFraction, hx_X, if_pos h])]
  exact tail_e nx_hf gg_powB (fun b r' h => dw_head h) _ _

theorem beq46 (b : UInt8) : ((b.toNat : Int) = 46) = (b = 46) := propext (ieq b 46)
theorem beq47 (b : UInt8) : ((b.toNat : Int) = 47) = (b = 47) := propext (ieq b 47)
theorem beq48 (b : UInt8) : ((b.toNat : Int) = 48) = (b = 48) := propext (ieq b 48)
theorem nx_wh (b : UInt8) (h : isD b = false) : nx 208 (b.toNat : Int) = if b = 46 then (some 233, 1) else if (b == 101 || b == 69) = true then (some 234, 0) else if b = 47 then (some 235, 0) else (none, 0) := by
  show nx_whole _ = _
  rw [nx_whole, dg_D, h, if_neg (by decide)]
  simp only [← is_2, beq46, beq47]
  rfl
theorem acc_in (t : List UInt8) (k i : Int) : cond t.isEmpty (k, i) (k, i + t.length) = (k, i + t.length) := by cases t <;> simp
theorem add_e (n : Nat) (k i : Int) : cond ((n == 0)) (k, i) (k, i + n) = (k, i + n) := by
  cases h : (n == 0)
  · rfl
  · rw [eq_of_beq h]
    simp
/-- Behind digits: what is taken at last. -/
def wRes (l : List UInt8) (i : Int) : Int × Int := match l.dropWhile isD with
  | b :: r => cond (b == 46) (1, i + (l.takeWhile isD).length + 1 + (r.takeWhile isD).length + eLen 101 69 (r.dropWhile isD))
      (cond (b == 47) (cond (r.takeWhile isD).isEmpty (1, i + (l.takeWhile isD).length) (3, i + (l.takeWhile isD).length + 1 + (r.takeWhile isD).length)) (1, i + (l.takeWhile isD).length + eLen 101 69 (b :: r)))
  | [] => (1, i + (l.takeWhile isD).length)
theorem gg_whole (l : List UInt8) (i : Int) : gg l 208 i (1, i) = wRes l i := by
  rw [gg_keep (P := isD) (fun b h => by
    show nx_whole _ = _
    rw [nx_whole, dg_D, if_pos h]) (by decide), acc_in]
  unfold wRes
  cases hr : l.dropWhile isD with
  | nil => rfl
  | cons b r =>
    have hb := nx_wh b (dw_head hr)
    dsimp only
    cases h46 : b == 46
    · have n46 : ¬ b = 46 := by simpa using h46
      rw [if_neg n46] at hb
      cases h47 : b == 47
      · have n47 : ¬ b = 47 := by simpa using h47
        rw [if_neg n47] at hb
        simp only [cond_false]
        have := tail_e (f := 208) (x := 101) (y := 69) (P := fun c => isD c || (c == 46 || c == 47)) (r := b :: r) (fun c hc => by
          simp only [Bool.or_eq_false_iff, beq_eq_false_iff_ne, ne_eq] at hc
          rw [nx_wh c hc.1, if_neg hc.2.1, if_neg hc.2.2]) gg_expB (fun c r' e => by
          cases e
          simp [h46, h47, dw_head hr]) (i + (l.takeWhile isD).length) (1, i + (l.takeWhile isD).length)
        rw [this, add_e]
      · have e47 : b = 47 := by simpa using h47
        rw [if_pos e47, if_neg (by rw [e47]; decide)] at hb
        rw [step_some hb, if_neg (by decide), gg_und]
        rfl
    · have e46 : b = 46 := by simpa using h46
      rw [if_pos e46] at hb
      rw [step_some hb, if_pos (by decide), gg_fraction]
      rfl
theorem w_spec {b : UInt8} {r : List UInt8} (h : isD b = true) (i : Int) : wRes r (i + 1) = cond ((ratLen (b :: r) == 0)) (1, i + decLen (b :: r)) (3, i + ratLen (b :: r)) := by
  have t : (b :: r).takeWhile isD = b :: r.takeWhile isD := by rw [List.takeWhile_cons, h]; rfl
  have d : (b :: r).dropWhile isD = r.dropWhile isD := by rw [List.dropWhile_cons, h]; rfl
  unfold wRes ratLen decLen parts
  rw [t, d]
  cases hr : r.dropWhile isD with
  | nil =>
    simp only [pLen, List.length_cons, cond_false, Nat.add_zero]
    rw [b0_t rfl, cond_true, b0_f (by omega), cond_false]
    have : eLen 101 69 [] = 0 := rfl
    rw [this]
    simp only [Prod.mk.injEq, true_and]
    omega
  | cons c q =>
    dsimp only
    cases h46 : c == 46
    · simp only [cond_false, Bool.false_and, pLen, List.length_cons, Nat.add_zero]
      rw [b0_f (by omega : ¬ ((r.takeWhile isD).length + 1 = 0)), cond_false]
      cases h47 : c == 47
      · simp only [cond_false, Bool.false_and, beq_self_eq_true, cond_true]
        simp only [Prod.mk.injEq, true_and]
        omega
      · have e47 : c = 47 := by simpa using h47
        have e0 : eLen 101 69 (c :: q) = 0 := by rw [e47]; rfl
        rw [e0]
        cases hq : q.takeWhile isD with
        | nil =>
          simp only [List.isEmpty_nil, cond_true, Bool.or_true, Bool.not_true, Bool.and_false, cond_false, beq_self_eq_true]
          simp only [Prod.mk.injEq, true_and]
          omega
        | cons x y =>
          simp only [List.isEmpty_cons, cond_false, Bool.or_self, Bool.not_false, Bool.and_self, cond_true, List.length_cons]
          rw [b0_f (by omega), cond_false]
          simp only [Prod.mk.injEq, true_and]
          omega
    · have e46 : c = 46 := by simpa using h46
      have n47 : (c == 47) = false := by rw [e46]; rfl
      simp only [n47, cond_true, Bool.false_and, cond_false, List.isEmpty_cons, Bool.not_false, Bool.and_self, pLen, List.length_cons, beq_self_eq_true]
      rw [b0_f (by omega), cond_false]
      simp only [Prod.mk.injEq, true_and]
      omega

/-! ### hexadecimal ones -/
theorem nx_hw (b : UInt8) (h : hexB b = false) : nx 259 (b.toNat : Int) = if b = 46 then (some 272, 0) else if (b == 112 || b == 80) = true then (some 273, 0) else (none, 0) := by
  show nx_hexWhole _ = _
  rw [nx_hexWhole, hx_X, h, if_neg (by decide)]
  simp only [← is_2, beq46]
  rfl
def hRes (l : List UInt8) (i : Int) (a : Int × Int) : Int × Int := match l.dropWhile hexB with
  | b :: r => cond (b == 46) (cond ((eLen 112 80 (r.dropWhile hexB) == 0)) a (2, i + (l.takeWhile hexB).length + 1 + (r.takeWhile hexB).length + eLen 112 80 (r.dropWhile hexB)))
      (cond ((eLen 112 80 (b :: r) == 0)) a (2, i + (l.takeWhile hexB).length + eLen 112 80 (b :: r)))
  | [] => a
theorem gg_hexWhole (l : List UInt8) (i : Int) (a : Int × Int) : gg l 259 i a = hRes l i a := by
  rw [gg_pass (P := hexB) (fun b h => by
    show nx_hexWhole _ = _
    rw [nx_hexWhole, hx_X, if_pos h])]
  unfold hRes
  cases hr : l.dropWhile hexB with
  | nil => rfl
  | cons b r =>
    have hb := nx_hw b (dw_head hr)
    dsimp only
    cases h46 : b == 46
    · have n46 : ¬ b = 46 := by simpa using h46
      simp only [cond_false]
      exact tail_e (f := 259) (x := 112) (y := 80) (P := fun c => hexB c || c == 46) (r := b :: r) (fun c hc => by
          simp only [Bool.or_eq_false_iff, beq_eq_false_iff_ne, ne_eq] at hc
          rw [nx_hw c hc.1, if_neg hc.2]) gg_powB (fun c r' e => by
          cases e
          simp [h46, dw_head hr]) _ _
    · have e46 : b = 46 := by simpa using h46
      rw [if_pos e46] at hb
      rw [step_some hb, if_neg (by decide), gg_hexFraction]
      rfl
theorem nx_hb (b : UInt8) : nx 232 (b.toNat : Int) = if hexB b = true then (some 259, 0) else if b = 46 then (some 260, 0) else (none, 0) := by
  show nx_hexBegin _ = _
  rw [nx_hexBegin, hx_X]
  simp only [beq46]
theorem nx_hbare (b : UInt8) : nx 260 (b.toNat : Int) = if hexB b = true then (some 272, 0) else (none, 0) := by
  show nx_hexBare _ = _
  rw [nx_hexBare, hx_X]
theorem hex46 : hexB 46 = false := by decide
theorem gg_hexBegin (l : List UInt8) (i : Int) (a : Int × Int) : gg l 232 (i + 1 + 1) a = cond ((hexLen0 l == 0)) a (2, i + hexLen0 l) := by
  cases l with
  | nil => rfl
  | cons b r =>
    cases hb : hexB b
    · have h0 := nx_hb b
      rw [if_neg (by rw [hb]; decide)] at h0
      have t : (b :: r).takeWhile hexB = [] := by rw [List.takeWhile_cons, hb]; rfl
      have d : (b :: r).dropWhile hexB = b :: r := by rw [List.dropWhile_cons, hb]; rfl
      cases h46 : b == 46
      · have n46 : ¬ b = 46 := by simpa using h46
        rw [if_neg n46] at h0
        rw [step_none h0]
        have : hexLen0 (b :: r) = 0 := by simp [hexLen0, parts, t, d, h46, pLen]
        rw [this]
        rfl
      · have e46 : b = 46 := by simpa using h46
        rw [if_pos e46] at h0
        rw [step_some h0, if_neg (by decide)]
        cases r with
        | nil =>
          have : hexLen0 [b] = 0 := by rw [e46]; decide
          rw [this]
          rfl
        | cons x q =>
          have h1 := nx_hbare x
          cases hx : hexB x
          · rw [if_neg (by rw [hx]; decide)] at h1
            rw [step_none h1]
            have t2 : (x :: q).takeWhile hexB = [] := by rw [List.takeWhile_cons, hx]; rfl
            have : hexLen0 (b :: x :: q) = 0 := by simp [hexLen0, parts, t, d, h46, t2, pLen]
            rw [this]
            rfl
          · rw [if_pos hx] at h1
            rw [step_some h1, if_neg (by decide), gg_hexFraction]
            have t2 : (x :: q).takeWhile hexB = x :: q.takeWhile hexB := by rw [List.takeWhile_cons, hx]; rfl
            have d2 : (x :: q).dropWhile hexB = q.dropWhile hexB := by rw [List.dropWhile_cons, hx]; rfl
            have e : hexLen0 (b :: x :: q) = cond ((eLen 112 80 (q.dropWhile hexB) == 0)) 0 (2 + (1 + ((q.takeWhile hexB).length + 1)) + eLen 112 80 (q.dropWhile hexB)) := by
              simp only [hexLen0, parts, t, d, h46, t2, d2, pLen, List.isEmpty_nil, List.isEmpty_cons, Bool.and_false, Bool.not_false, Bool.and_self, cond_true, List.length_nil, List.length_cons, Nat.zero_add]
              rw [b0_f (by omega : ¬ (1 + ((q.takeWhile hexB).length + 1) = 0)), cond_false]
            rw [e]
            cases he : (eLen 112 80 (q.dropWhile hexB) == 0)
            · simp only [cond_false]
              rw [b0_f (by omega), cond_false]
              simp only [Prod.mk.injEq, true_and]
              omega
            · rfl
    · have h0 := nx_hb b
      rw [if_pos hb] at h0
      rw [step_some h0, if_neg (by decide), gg_hexWhole]
      have t : (b :: r).takeWhile hexB = b :: r.takeWhile hexB := by rw [List.takeWhile_cons, hb]; rfl
      have d : (b :: r).dropWhile hexB = r.dropWhile hexB := by rw [List.dropWhile_cons, hb]; rfl
      unfold hRes hexLen0 parts
      rw [t, d]
      cases hr : r.dropWhile hexB with
      | nil =>
        simp only [pLen, List.length_cons, cond_false, Nat.add_zero]
        have : eLen 112 80 [] = 0 := rfl
        rw [this, b0_f (by omega : ¬ ((r.takeWhile hexB).length + 1 = 0)), cond_false]
        rfl
      | cons c q =>
        dsimp only
        cases h46 : c == 46
        · simp only [cond_false, Bool.false_and, pLen, List.length_cons, Nat.add_zero]
          rw [b0_f (by omega : ¬ ((r.takeWhile hexB).length + 1 = 0)), cond_false]
          cases he : (eLen 112 80 (c :: q) == 0)
          · simp only [cond_false]
            rw [b0_f (by omega), cond_false]
            simp only [Prod.mk.injEq, true_and]
            omega
          · rfl
        · simp only [cond_true, List.isEmpty_cons, Bool.false_and, Bool.not_false, Bool.and_self, pLen, List.length_cons]
          rw [b0_f (by omega : ¬ ((r.takeWhile hexB).length + 1 + (1 + (q.takeWhile hexB).length) = 0)), cond_false]
          cases he : (eLen 112 80 (q.dropWhile hexB) == 0)
          · simp only [cond_false]
            rw [b0_f (by omega), cond_false]
            simp only [Prod.mk.injEq, true_and]
            omega
          · rfl

/-! ### all of them, behind a sign -/
def numLen (l : List UInt8) : Int × Nat := cond ((hexLen l == 0)) (cond ((ratLen l == 0)) (cond ((decLen l == 0)) (0, 0) (1, decLen l)) (3, ratLen l)) (2, hexLen l)
theorem nx_si (b : UInt8) : nx 175 (b.toNat : Int) = if b = 48 then (some 207, 1) else if isD b = true then (some 208, 1) else if b = 46 then (some 209, 0) else (none, 0) := by
  show nx_signed _ = _
  rw [nx_signed, dg_D]
  simp only [beq46, beq48]
theorem nx_ze (b : UInt8) : nx 207 (b.toNat : Int) = if (b == 120 || b == 88) = true then (some 232, 0) else nx 208 (b.toNat : Int) := by
  show nx_zero _ = ite _ _ (nx_whole _)
  rw [nx_zero]
  simp only [← is_2]
  rfl
theorem nx_ba (b : UInt8) : nx 209 (b.toNat : Int) = if isD b = true then (some 233, 1) else (none, 0) := by
  show nx_bare _ = _
  rw [nx_bare, dg_D]
def numRes (l : List UInt8) (i : Int) (a : Int × Int) : Int × Int := cond (((numLen l).1 == 0)) a ((numLen l).1, i + (numLen l).2)
theorem hexLen_of {b : UInt8} {r : List UInt8} (h : (b == 48) = false) : hexLen (b :: r) = 0 := by
  cases r with
  | nil => rfl
  | cons x r => simp [hexLen, h]
theorem dec_pos {b : UInt8} {r : List UInt8} (h : isD b = true) : decLen (b :: r) ≠ 0 := by
  have t : (b :: r).takeWhile isD = b :: r.takeWhile isD := by rw [List.takeWhile_cons, h]; rfl
  unfold decLen
  have hp : pLen (parts isD (b :: r)) ≠ 0 := by
    unfold parts pLen
    rw [t]
    cases (b :: r).dropWhile isD with
    | nil => simp
    | cons c q =>
      dsimp only
      cases (c == 46 && !((b :: r.takeWhile isD).isEmpty && (q.takeWhile isD).isEmpty)) <;> simp
  rw [b0_f hp, cond_false]
  omega
theorem numRes_w {b : UInt8} {r : List UInt8} (h : isD b = true) (hx : hexLen (b :: r) = 0) (i : Int) (a : Int × Int) : numRes (b :: r) i a = wRes r (i + 1) := by
  rw [w_spec h]
  unfold numRes numLen
  rw [hx, b0_t rfl, cond_true]
  cases (ratLen (b :: r) == 0)
  · rfl
  · simp only [cond_true]
    rw [b0_f (dec_pos h)]
    rfl
theorem gg_signed (l : List UInt8) (i : Int) (a : Int × Int) : gg l 175 i a = numRes l i a := by
  cases l with
  | nil => rfl
  | cons b r =>
    have h0 := nx_si b
    by_cases h48 : b = 48
    · rw [if_pos h48] at h0
      rw [step_some h0, if_pos (by decide)]
      have hD : isD b = true := by rw [h48]; decide
      cases r with
      | nil =>
        rw [h48]
        rfl
      | cons x q =>
        cases hx : (x == 120 || x == 88)
        · have hl : hexLen (b :: x :: q) = 0 := by simp only [hexLen, hx, Bool.and_false, cond_false]
          rw [numRes_w hD hl, step_same (f' := 208) (by rw [nx_ze, if_neg (by rw [hx]; decide)]), gg_whole]
        · have h1 := nx_ze x
          rw [if_pos hx] at h1
          rw [step_some h1, if_neg (by decide), gg_hexBegin]
          have hl : hexLen (b :: x :: q) = hexLen0 q := by rw [h48]; simp only [hexLen, hx, beq_self_eq_true, Bool.and_self, cond_true]
          cases hz : (hexLen0 q == 0)
          · simp only [cond_false]
            unfold numRes numLen
            rw [hl, hz, cond_false]
            rfl
          · simp only [cond_true]
            have hl0 : hexLen (b :: x :: q) = 0 := by rw [hl]; exact eq_of_beq hz
            rw [numRes_w hD hl0]
            have xD : isD x = false := by
              rw [Bool.or_eq_true, beq_iff_eq, beq_iff_eq] at hx
              rcases hx with rfl | rfl <;> decide
            have t : (x :: q).takeWhile isD = [] := by rw [List.takeWhile_cons, xD]; rfl
            have d : (x :: q).dropWhile isD = x :: q := by rw [List.dropWhile_cons, xD]; rfl
            have x46 : (x == 46) = false := by
              rw [Bool.or_eq_true, beq_iff_eq, beq_iff_eq] at hx
              rcases hx with rfl | rfl <;> decide
            have x47 : (x == 47) = false := by
              rw [Bool.or_eq_true, beq_iff_eq, beq_iff_eq] at hx
              rcases hx with rfl | rfl <;> decide
            have xe : eLen 101 69 (x :: q) = 0 := by
              have : (x == 101 || x == 69) = false := by
                rw [Bool.or_eq_true, beq_iff_eq, beq_iff_eq] at hx
                rcases hx with rfl | rfl <;> decide
              simp [eLen, expo, this]
            unfold wRes
            rw [d, t]
            simp only [x46, x47, xe, cond_false, List.length_nil]
            simp
    · rw [if_neg h48] at h0
      have n48 : (b == 48) = false := by simpa using h48
      have hl := hexLen_of (r := r) n48
      cases hD : isD b
      · rw [if_neg (by rw [hD]; decide)] at h0
        have t : (b :: r).takeWhile isD = [] := by rw [List.takeWhile_cons, hD]; rfl
        have d : (b :: r).dropWhile isD = b :: r := by rw [List.dropWhile_cons, hD]; rfl
        have hr0 : ratLen (b :: r) = 0 := by unfold ratLen; rw [d, t]; simp
        by_cases h46 : b = 46
        · rw [if_pos h46] at h0
          rw [step_some h0, if_neg (by decide)]
          cases r with
          | nil =>
            rw [h46]
            rfl
          | cons x q =>
            have h1 := nx_ba x
            have b46 : (b == 46) = true := by simpa using h46
            cases hx : isD x
            · rw [if_neg (by rw [hx]; decide)] at h1
              rw [step_none h1]
              have t2 : (x :: q).takeWhile isD = [] := by rw [List.takeWhile_cons, hx]; rfl
              have hd0 : decLen (b :: x :: q) = 0 := by simp [decLen, parts, t, d, b46, t2, pLen]
              unfold numRes numLen
              rw [hl, hr0, hd0]
              rfl
            · rw [if_pos hx] at h1
              rw [step_some h1, if_pos (by decide), gg_fraction]
              have t2 : (x :: q).takeWhile isD = x :: q.takeWhile isD := by rw [List.takeWhile_cons, hx]; rfl
              have d2 : (x :: q).dropWhile isD = q.dropWhile isD := by rw [List.dropWhile_cons, hx]; rfl
              have hd1 : decLen (b :: x :: q) = 1 + ((q.takeWhile isD).length + 1) + eLen 101 69 (q.dropWhile isD) := by
                simp only [decLen, parts, t, d, b46, t2, d2, pLen, List.isEmpty_nil, List.isEmpty_cons, Bool.and_false, Bool.not_false, Bool.and_self, cond_true, List.length_nil, List.length_cons, Nat.zero_add]
                rw [b0_f (by omega : ¬ (1 + ((q.takeWhile isD).length + 1) = 0)), cond_false]
              unfold numRes numLen
              rw [hl, hr0, hd1, b0_t rfl, cond_true, cond_true, b0_f (by omega : ¬ (1 + ((q.takeWhile isD).length + 1) + eLen 101 69 (q.dropWhile isD) = 0)), cond_false]
              show _ = (1, _)
              simp only [Prod.mk.injEq, true_and]
              omega
        · rw [if_neg h46] at h0
          have b46 : (b == 46) = false := by simpa using h46
          rw [step_none h0]
          have hd0 : decLen (b :: r) = 0 := by simp [decLen, parts, t, d, b46, pLen]
          unfold numRes numLen
          rw [hl, hr0, hd0]
          rfl
      · rw [if_pos hD] at h0
        rw [step_some h0, if_pos (by decide), numRes_w hD hl, gg_whole]
/-- What stands at the beginning: its kind (0: none) and its length, sign and all. -/
def longS (l : List UInt8) : Int × Nat := cond (((numLen (l.drop (sgn l))).1 == 0)) (0, 0) ((numLen (l.drop (sgn l))).1, sgn l + (numLen (l.drop (sgn l))).2)
theorem gg_begin (l : List UInt8) : gg l 133 0 (0, 0) = ((longS l).1, ((longS l).2 : Int)) := by
  have key : ∀ (r : List UInt8) (i : Nat), numRes r i (0, 0) = ((cond (((numLen r).1 == 0)) (0, 0) ((numLen r).1, i + (numLen r).2) : Int × Nat).1, ((cond (((numLen r).1 == 0)) (0, 0) ((numLen r).1, i + (numLen r).2) : Int × Nat).2 : Int)) := fun r i => by
    unfold numRes
    cases ((numLen r).1 == 0)
    · simp
    · rfl
  have hB : ∀ b : UInt8, nx 133 (b.toNat : Int) = if isS b = true then (some 175, 0) else nx 175 (b.toNat : Int) := fun b => by
    show nx_begin _ = ite _ _ (nx_signed _)
    rw [nx_begin]
    simp only [is_S]
  cases l with
  | nil => rfl
  | cons b r =>
    cases hs : isS b
    · have e : sgn (b :: r) = 0 := by simp [sgn, hs]
      rw [step_same (f' := 175) (by rw [hB, if_neg (by rw [hs]; decide)]), gg_signed]
      unfold longS
      rw [e]
      exact key (b :: r) 0
    · have e : sgn (b :: r) = 1 := by simp [sgn, hs]
      rw [step_some (f' := 175) (k := 0) (by rw [hB, if_pos hs]), if_neg (by decide), gg_signed]
      unfold longS
      rw [e]
      exact key r 1
theorem long_S (l : List UInt8) : long l = ((longS (l.take 65536)).1, ((longS (l.take 65536)).2 : Int)) := by
  rw [← gg_begin]
  unfold long gg
  rw [List.map_take]
end Go.RX.S
