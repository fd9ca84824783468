/- Digits of any base; what the document's functions answer. -/
import Derived.Test.YtciapojlnhiggaaSd
set_option linter.unusedVariables false
set_option linter.unusedSimpArgs false
namespace Go.RX.S
open Go Go.RX

/-- The number that digits stand for, the lowest first. -/
def gval (b : Nat) : List Int → Nat
  | [] => 0
  | x :: xs => x.toNat + b * gval b xs
/-- All are below a bound, and not below 0. -/
def Dg (b : Nat) (l : List Int) : Prop := ∀ x ∈ l, 0 ≤ x ∧ x < (b : Int)
/-- The digits of a number, none more than needed. -/
def gcan (b v : Nat) : List Int :=
  if h : v = 0 ∨ b < 2 then [] else ((v % b : Nat) : Int) :: gcan b (v / b)
termination_by v
decreasing_by exact Nat.div_lt_self (by omega) (by omega)

section
variable {b : Nat}
theorem Dg.cons {x : Int} {xs : List Int} : Dg b (x :: xs) ↔ (0 ≤ x ∧ x < (b : Int)) ∧ Dg b xs := by simp [Dg]
theorem Dg.nil : Dg b [] := by simp [Dg]
theorem Dg.append {l m : List Int} : Dg b (l ++ m) ↔ Dg b l ∧ Dg b m := by
  constructor
  · intro h
    exact ⟨fun x hx => h x (by simp [hx]), fun x hx => h x (by simp [hx])⟩
  · rintro ⟨h1, h2⟩ x hx
    rcases List.mem_append.1 hx with h | h
    · exact h1 x h
    · exact h2 x h
theorem Dg.take {l : List Int} (h : Dg b l) (n : Nat) : Dg b (l.take n) := fun x hx => h x (List.mem_of_mem_take hx)
theorem Dg.drop {l : List Int} (h : Dg b l) (n : Nat) : Dg b (l.drop n) := fun x hx => h x (List.mem_of_mem_drop hx)
theorem Dg.rep (hb : 0 < b) (n : Nat) : Dg b (List.replicate n 0) := fun x hx => by simp at hx; omega
theorem Dg.mono {c : Nat} {l : List Int} (h : Dg b l) (hc : b ≤ c) : Dg c l := fun x hx => by have := h x hx; omega
theorem Dg.get {l : List Int} (hb : 0 < b) (h : Dg b l) (i : Nat) : 0 ≤ l.getD i 0 ∧ l.getD i 0 < (b : Int) := by
  rw [List.getD_eq_getElem?_getD]
  cases hi : l[i]? with
  | none => simp; omega
  | some x => exact h x (List.mem_of_getElem? hi)
theorem gval_nil : gval b [] = 0 := rfl
theorem gval_cons (x : Int) (xs : List Int) : gval b (x :: xs) = x.toNat + b * gval b xs := rfl
theorem gval_one {x : Int} : gval b [x] = x.toNat := by simp [gval]
theorem gval_append : ∀ (l m : List Int), gval b (l ++ m) = gval b l + b ^ l.length * gval b m
  | [], m => by simp [gval]
  | x :: xs, m => by
    rw [List.cons_append, gval_cons, gval_append xs m, gval_cons, List.length_cons, Nat.pow_succ]
    grind
theorem gval_rep : ∀ n, gval b (List.replicate n 0) = 0
  | 0 => rfl
  | n + 1 => by rw [List.replicate_succ, gval_cons, gval_rep n]; rfl
theorem digit_lt {b x v w : Nat} (hx : x < b) (h : v < w) : x + b * v < b * w := by
  have : b * (v + 1) ≤ b * w := Nat.mul_le_mul_left _ h
  rw [Nat.mul_succ] at this
  omega
theorem gval_lt : ∀ {l : List Int}, Dg b l → gval b l < b ^ l.length
  | [], _ => by simp [gval]
  | x :: xs, h => by
    rw [Dg.cons] at h
    rw [gval_cons, List.length_cons, Nat.pow_succ, Nat.mul_comm (b ^ xs.length)]
    have hx : x.toNat < b := by omega
    exact digit_lt hx (gval_lt h.2)
theorem gcan_zero : gcan b 0 = [] := by rw [gcan]; simp
theorem gcan_pos (hb : 2 ≤ b) {v : Nat} (h : v ≠ 0) : gcan b v = ((v % b : Nat) : Int) :: gcan b (v / b) := by
  rw [gcan, dif_neg (by omega)]
theorem gcan_ok (hb : 2 ≤ b) (v : Nat) : Dg b (gcan b v) := by
  induction v using Nat.strongRecOn with
  | ind v ih =>
    by_cases h : v = 0
    · rw [h, gcan_zero]; exact Dg.nil
    · have hm : v % b < b := Nat.mod_lt _ (by omega)
      rw [gcan_pos hb h, Dg.cons]
      exact ⟨⟨by omega, by omega⟩, ih _ (Nat.div_lt_self (by omega) (by omega))⟩
theorem gval_gcan (hb : 2 ≤ b) (v : Nat) : gval b (gcan b v) = v := by
  induction v using Nat.strongRecOn with
  | ind v ih =>
    by_cases h : v = 0
    · rw [h, gcan_zero]; rfl
    · rw [gcan_pos hb h, gval_cons, ih _ (Nat.div_lt_self (by omega) (by omega)), Int.toNat_natCast, Nat.add_comm]
      exact Nat.div_add_mod v b
theorem gcan_len (hb : 2 ≤ b) : ∀ {n v : Nat}, v < b ^ n → (gcan b v).length ≤ n
  | 0, v, h => by simp at h; simp [h, gcan_zero]
  | n + 1, v, h => by
    by_cases h0 : v = 0
    · simp [h0, gcan_zero]
    · rw [gcan_pos hb h0, List.length_cons]
      have := gcan_len hb (n := n) (v := v / b) (by rw [Nat.pow_succ] at h; exact (Nat.div_lt_iff_lt_mul (by omega)).2 h)
      omega
theorem gcan_len_iff (hb : 2 ≤ b) (n v : Nat) : (gcan b v).length ≤ n ↔ v < b ^ n := by
  constructor
  · intro h
    have := gval_lt (gcan_ok hb v)
    rw [gval_gcan hb] at this
    exact Nat.lt_of_lt_of_le this (Nat.pow_le_pow_right (by omega) h)
  · exact gcan_len hb
theorem gcan_inj (hb : 2 ≤ b) {v w : Nat} : gcan b v = gcan b w ↔ v = w := by
  constructor
  · intro h
    have := congrArg (gval b) h
    rwa [gval_gcan hb, gval_gcan hb] at this
  · rintro rfl; rfl
theorem gval_zero (hb : 2 ≤ b) : ∀ {l : List Int}, Dg b l → (gval b l = 0 ↔ sz l = 0)
  | [], _ => by simp [sz, gval]
  | x :: xs, h => by
    rw [Dg.cons] at h
    have := gval_zero hb h.2
    rw [gval_cons]
    simp only [sz]
    by_cases h0 : sz xs = 0
    · have h1 := this.2 h0
      rw [if_pos h0, h1, Nat.mul_zero]
      split <;> omega
    · rw [if_neg h0]
      have h1 : gval b xs ≠ 0 := fun h => h0 (this.1 h)
      have h2 : 0 < b * gval b xs := Nat.mul_pos (by omega) (by omega)
      omega
theorem gcan_val (hb : 2 ≤ b) : ∀ {l : List Int}, Dg b l → gcan b (gval b l) = l.take (sz l)
  | [], _ => by simp [gcan_zero, gval]
  | x :: xs, h => by
    have hh := h
    rw [Dg.cons] at h
    have ih := gcan_val hb h.2
    by_cases h0 : gval b (x :: xs) = 0
    · rw [h0, gcan_zero, (gval_zero hb hh).1 h0]; rfl
    · have hs : sz (x :: xs) = sz xs + 1 := by
        have h1 : sz (x :: xs) ≠ 0 := fun e => h0 ((gval_zero hb hh).2 e)
        simp only [sz] at h1 ⊢
        split at h1
        · split at h1
          · omega
          · rename_i h2 h3
            rw [if_pos h2, if_neg h3, h2]
        · rename_i h2
          rw [if_neg h2]
      rw [gcan_pos hb h0, hs, List.take_succ_cons]
      rw [gval_cons] at h0 ⊢
      have hx : x.toNat < b := by omega
      rw [Nat.add_mul_mod_self_left, Nat.mod_eq_of_lt hx, Nat.add_mul_div_left _ _ (by omega), Nat.div_eq_of_lt hx, Nat.zero_add, ih]
      congr 1
      omega
theorem gval_take_sz (hb : 2 ≤ b) {l : List Int} (h : Dg b l) : gval b (l.take (sz l)) = gval b l := by rw [← gcan_val hb h, gval_gcan hb]
theorem gdigit_val (hb : 2 ≤ b) : ∀ {l : List Int} (i : Nat), Dg b l → gval b l / b ^ i % b = (l.getD i 0).toNat
  | [], i, _ => by simp [gval]
  | x :: xs, 0, h => by
    rw [Dg.cons] at h
    rw [gval_cons, Nat.pow_zero, Nat.div_one, List.getD_cons_zero, Nat.add_mul_mod_self_left, Nat.mod_eq_of_lt (by omega)]
  | x :: xs, i + 1, h => by
    rw [Dg.cons] at h
    rw [gval_cons, List.getD_cons_succ, ← gdigit_val hb i h.2, Nat.pow_succ, Nat.mul_comm (b ^ i), ← Nat.div_div_eq_div_mul, Nat.add_mul_div_left _ _ (by omega), Nat.div_eq_of_lt (a := x.toNat) (by omega), Nat.zero_add]
theorem gval_val (l : List Int) : gval 18446744073709551616 l = val l := by
  induction l with
  | nil => rfl
  | cons x xs ih => rw [gval_cons, val_cons, ih]
theorem gval_snoc (pre : List Int) (s : Int) : gval b (pre ++ [s]) = gval b pre + b ^ pre.length * s.toNat := by
  rw [gval_append, gval_one]
end

/-! ### plumbref02 -/
/-- A list that is worked by hand: not long. -/
def K (x : List Int) : Prop := W64 x ∧ x.length ≤ 1000
noncomputable section
def dcutF (x : List Int) : Option (List Int) := gu (x.length ≤ 1000000) (x.take (sz x))
def digitsF (x : List Int) : Option (List Int) := gu (K x) (gcan 65536 (val x))
def dwordsF (d : List Int) : Option (List Int) := gu (Dg 65536 d ∧ d.length ≤ 1000000) (can (gval 65536 d))
def carriedF (d : List Int) : Option (List Int) := gu (Dg 1099511627776 d ∧ d.length ≤ 100000) (gcan 65536 (gval 65536 d))
def rtoldF (d : List Int) : Option (List Int × Int) := gu (Dg 65536 d ∧ d.length ≤ 1000000) (bnd (gval 65536 d))
def rNormF (x : List Int) : Option (List Int) := gu (K x) (can (val x))
def rFromF (t : Int) : Option (List Int) := gu (Wd t) (can t.toNat)
def rWordF (x : List Int) : Option (Int × Bool) := gu (K x) (if val x < 18446744073709551616 then ((val x : Int), true) else (0, false))
def compareF (t : List Int × List Int) : Option Int := gu (t.1 = gcan 65536 (gval 65536 t.1) ∧ t.2 = gcan 65536 (gval 65536 t.2) ∧ t.1.length ≤ 1000000) (sgn (gval 65536 t.1) (gval 65536 t.2))
def rCmpF (t : List Int × List Int) : Option Int := gu (K t.1 ∧ K t.2) (sgn (val t.1) (val t.2))
def plusF (t : List Int × List Int) : Option (List Int) := gu (Dg 65536 t.1 ∧ Dg 65536 t.2 ∧ t.1.length ≤ 100000 ∧ t.2.length ≤ 100000) (gcan 65536 (gval 65536 t.1 + gval 65536 t.2))
def rAddF (t : List Int × List Int) : Option (List Int × Int) := gu (K t.1 ∧ K t.2) (bnd (val t.1 + val t.2))
def rSumF (l : List AV) : Option (List Int × Int) := gu ((∀ x ∈ rows l, K x) ∧ l.length ≤ 100) (bnd ((rows l).map val).sum)
def rSubF (t : List Int × List Int) : Option (List Int × Int) := gu (K t.1 ∧ K t.2) (if val t.1 < val t.2 then ([], 20) else bnd (val t.1 - val t.2))
def rMulF (t : List Int × List Int) : Option (List Int × Int) := gu (K t.1 ∧ K t.2) (bnd (val t.1 * val t.2))
def rShlF (t : List Int × Int) : Option (List Int × Int) := gu (K t.1 ∧ t.2 ≤ 9223372036854775807) (if t.2 < 0 then ([], 22) else if val t.1 = 0 then ([], 0) else if blen (val t.1) + t.2.toNat ≤ 262144 then (can (val t.1 * 2 ^ t.2.toNat), 0) else ([], 21))
def rShrF (t : List Int × Int) : Option (List Int × Bool × Int) := gu (K t.1 ∧ t.2 ≤ 9223372036854775807) (if t.2 < 0 then ([], false, 22) else (can (val t.1 / 2 ^ t.2.toNat), decide (val t.1 % 2 ^ t.2.toNat ≠ 0), 0))
def rBitsF (x : List Int) : Option Int := gu (K x) (blen (val x) : Int)
def rBitF (t : List Int × Int) : Option Int := gu (K t.1 ∧ t.2 ≤ 9223372036854775807) (if t.2 < 0 then 0 else ((val t.1 / 2 ^ t.2.toNat % 2 : Nat) : Int))
def rZerosF (x : List Int) : Option Int := gu (K x) (tz (val x) : Int)
def NatAddsF (t : List Int × List Int × List Int) : Option Bool := gu (W64 t.1 ∧ W64 t.2.1 ∧ W64 t.2.2) true
def NatShiftsF (t : List Int × Int) : Option Bool := gu (W64 t.1 ∧ I64 t.2) true
def NatHugeF (t : Int × Int) : Option Bool := gu (I64 t.1 ∧ Wd t.2) true

/-! ### quot, plumblaw03, plumbref03 -/
/-- As long as a caller's list may be. -/
def L (x : List Int) : Prop := W64 x ∧ x.length ≤ 17592186043904
def lentF (x : List Int) : Option (List Int) := gu (L x) (x ++ [7777, 8888])
def numF (n : Int) : Option Int := gu (I64 n) n
def keptF (t : List Int × List Int) : Option Bool := gu (L t.2 ∧ t.1.length ≤ 17609365913600) (@decide (t.1 = t.2 ++ [7777, 8888]) (Classical.propDecidable _))
def powF (v : Nat) (n : Int) : List Int × Int := if n < 0 then ([], 31) else if n = 0 then (can 1, 0) else if v < 2 then (can v, 0) else if v ^ n.toNat < Lim then (can (v ^ n.toNat), 0) else ([], 21)
def qPowF (t : List Int × Int) : Option (List Int × Int) := gu (V t.1 ∧ I64 t.2) (powF (val t.1) t.2)
def rPowF (t : List Int × Int) : Option (List Int × Int) := gu (V t.1 ∧ I64 t.2) (powF (val t.1) t.2)
def r3NormF (x : List Int) : Option (List Int) := gu (V x) (can (val x))
def r3BitsF (x : List Int) : Option Int := gu (V x) (blen (val x) : Int)
def r3MulF (t : List Int × List Int) : Option (List Int) := gu (W64 t.1 ∧ W64 t.2 ∧ t.1.length ≤ 100000000 ∧ t.2.length ≤ 100000000) (can (val t.1 * val t.2))
/-! ### quot: division -/
def wDivF (t : Int × Int × Int) : Option (Int × Int × Int) := gu (Wd t.1 ∧ Wd t.2.1 ∧ Wd t.2.2 ∧ t.1 < t.2.2) (((t.1.toNat * 18446744073709551616 + t.2.1.toNat) / t.2.2.toNat : Nat), ((t.1.toNat * 18446744073709551616 + t.2.1.toNat) % t.2.2.toNat : Nat), 0)
/-- Shifted to the left by fewer than 64 bits, so many words. -/
def qshlF (t : List Int × Int × Int) : Option (List Int) := gu (V t.1 ∧ 0 ≤ t.2.1 ∧ t.2.1 < 64 ∧ (t.2.2 = t.1.length ∨ t.2.2 = t.1.length + 1) ∧ val t.1 * 2 ^ t.2.1.toNat < 18446744073709551616 ^ t.2.2.toNat) (dig t.2.2.toNat (val t.1 * 2 ^ t.2.1.toNat))
def qshrF (t : List Int × Int) : Option (List Int) := gu (V t.1 ∧ 0 ≤ t.2 ∧ t.2 < 64) (can (val t.1 / 2 ^ t.2.toNat))
def qaddF (t : List Int × List Int) : Option (List Int) := gu (V t.1 ∧ V t.2) (can (val t.1 + val t.2))
def qSmallF (t : List Int × Int) : Option (List Int × Int × Int) := gu (V t.1 ∧ Wd t.2) (if t.2 = 0 then ([], 0, 30) else (can (val t.1 / t.2.toNat), ((val t.1 % t.2.toNat : Nat) : Int), 0))
/-- A piece of a row less a word's multiple, and whether that was too much. -/
def takeF (t : List Int × List Int × Int) : Option (List Int × Bool) := gu (W64 t.1 ∧ V t.2.1 ∧ Wd t.2.2 ∧ t.1.length = t.2.1.length + 1) (dig t.1.length ((18446744073709551616 ^ t.1.length + val t.1 - val t.2.1 * t.2.2.toNat) % 18446744073709551616 ^ t.1.length), decide (val t.1 < val t.2.1 * t.2.2.toNat))
/-- A piece of a row and another, what is carried out of it gone. -/
def giveF (t : List Int × List Int) : Option (List Int × Unit) := gu (W64 t.1 ∧ V t.2 ∧ t.1.length = t.2.length + 1) (dig t.1.length ((val t.1 + val t.2) % 18446744073709551616 ^ t.1.length), ())
def longF (t : List Int × List Int) : Option (List Int × List Int) := gu (V t.1 ∧ V t.2 ∧ t.1 = can (val t.1) ∧ t.2 = can (val t.2) ∧ 2 ≤ t.2.length ∧ val t.2 ≤ val t.1) (can (val t.1 / val t.2), can (val t.1 % val t.2))
def DivModF (t : List Int × List Int) : Option (List Int × List Int × Int) := gu (V t.1 ∧ V t.2) (if val t.2 = 0 then ([], [], 30) else (can (val t.1 / val t.2), can (val t.1 % val t.2), 0))
def QuotPowsF (t : List Int × Int) : Option Bool := gu (L t.1 ∧ I64 t.2) true
end
end Go.RX.S
