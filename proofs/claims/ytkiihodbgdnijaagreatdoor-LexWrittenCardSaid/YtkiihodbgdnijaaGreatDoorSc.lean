/- Aids for loops over lists of words. -/
import Derived.Test.YtkiihodbgdnijaaGreatDoorSb
set_option linter.unusedVariables false
set_option linter.unusedSimpArgs false
namespace Go.RX.S
open Go Go.RX

theorem shrI_u64 (a n : Nat) (ha : a < 18446744073709551616) : shrI .u64 (a : Int) (n : Int) = ((a / 2 ^ n : Nat) : Int) := by
  have hb : (IntKind.u64).bits = 64 := rfl
  rw [shrI, hb, Int.toNat_natCast]
  have e : ∀ m : Nat, ((2 : Int) ^ m) = ((2 ^ m : Nat) : Int) := fun m => by simp
  rw [e, Int.fdiv_eq_ediv_of_nonneg _ (Int.natCast_nonneg _), ← Int.natCast_ediv]
  congr 1
  rcases Nat.le_total n 64 with h | h
  · rw [Nat.min_eq_left h]
  · rw [Nat.min_eq_right h, Nat.div_eq_of_lt (show a < 2 ^ 64 from by omega)]
    have : 2 ^ 64 ≤ 2 ^ n := Nat.pow_le_pow_right (by omega) h
    rw [Nat.div_eq_of_lt (by omega)]
theorem shlI_u64 (a n : Nat) : shlI .u64 (a : Int) (n : Int) = ((a * 2 ^ n % 18446744073709551616 : Nat) : Int) := by
  have hb : (IntKind.u64).bits = 64 := rfl
  rw [shlI, hb, Int.toNat_natCast, IntKind.wrap_u64]
  have e : ∀ m : Nat, ((2 : Int) ^ m) = ((2 ^ m : Nat) : Int) := fun m => by simp
  rw [e, ← Int.natCast_mul]
  have : ((18446744073709551616 : Int)) = ((18446744073709551616 : Nat) : Int) := rfl
  rw [this, ← Int.natCast_emod]
  congr 1
  rcases Nat.le_total n 64 with h | h
  · rw [Nat.min_eq_left h]
  · rw [Nat.min_eq_right h]
    obtain ⟨m, rfl⟩ : ∃ m, n = 64 + m := ⟨n - 64, by omega⟩
    rw [Nat.pow_add, ← Nat.mul_assoc]
    have h64 : (2 : Nat) ^ 64 = 18446744073709551616 := rfl
    rw [h64, Nat.mul_mod_left, Nat.mul_right_comm, Nat.mul_mod_left]
theorem and_low (a n : Nat) : a &&& (2 ^ n - 1) = a % 2 ^ n := Nat.and_two_pow_sub_one_eq_mod a n
theorem or_low {a b n : Nat} (h : b < 2 ^ n) : a * 2 ^ n ||| b = a * 2 ^ n + b := by
  rw [← Nat.shiftLeft_eq, ← Nat.shiftLeft_add_eq_or_of_lt h]

theorem inR {i n : Nat} (h : i < n) : inRange (i : Int) n = true := by
  unfold inRange
  simp
  omega
theorem inR_not {i n : Nat} (h : ¬ i < n) : inRange (i : Int) n = false := by
  unfold inRange
  simp
  omega
theorem rdI_nat (l : List Int) (i : Nat) : rdI l (i : Int) = l.getD i 0 := by rw [rdI, Int.toNat_natCast]
theorem rdI_mid {pre suf : List Int} {s : Int} {i : Nat} (h : pre.length = i) : rdI (pre ++ s :: suf) (i : Int) = s := by
  rw [rdI_nat, ← h]
  simp [List.getD_eq_getElem?_getD]
theorem set_mid {pre suf : List Int} {s v : Int} {i : Nat} (h : pre.length = i) : (pre ++ s :: suf).set i v = pre ++ v :: suf := by
  subst h
  simp
theorem wrI_mid {pre suf : List Int} {s v : Int} {i : Nat} (h : pre.length = i) : wrI (pre ++ s :: suf) i v = pre ++ v :: suf := set_mid h
theorem inc {i : Nat} (h : i < 4611686018427387904) : addI .i64 (i : Int) 1 = ((i + 1 : Nat) : Int) := by
  rw [addI_i64 (by omega)]
  omega
theorem dec {i : Nat} (h : i < 4611686018427387904) (h0 : 0 < i) : subI .i64 (i : Int) 1 = ((i - 1 : Nat) : Int) := by
  rw [subI_i64 (by omega)]
  omega
theorem splitAt {l : List Int} {i : Nat} (h : i < l.length) : ∃ pre s suf, l = pre ++ s :: suf ∧ pre.length = i := by
  refine ⟨l.take i, l[i], l.drop (i + 1), ?_, by simp; omega⟩
  rw [← List.drop_eq_getElem_cons h, List.take_append_drop]

/-- An answer, where a condition holds. -/
noncomputable def gu {α : Type} (p : Prop) (x : α) : Option α := @ite _ p (Classical.propDecidable p) (some x) none
theorem gu_pos {α : Type} {p : Prop} {x : α} (h : p) : gu p x = some x := by
  unfold gu
  rw [if_pos h]
theorem gu_eq {α : Type} {p : Prop} {x y : α} : gu p x = some y ↔ p ∧ x = y := by
  unfold gu
  split
  · rename_i h
    simp [h]
  · rename_i h
    simp [h]

/-- A word. -/
def Wd (x : Int) : Prop := 0 ≤ x ∧ x < 18446744073709551616
theorem Wd.nat {x : Int} (h : Wd x) : ∃ n : Nat, x = (n : Int) ∧ n < 18446744073709551616 := ⟨x.toNat, by have := h.1; omega, by have := h.2; omega⟩
theorem Wd.of {n : Nat} (h : n < 18446744073709551616) : Wd (n : Int) := ⟨by omega, by omega⟩
theorem cond_dec {α : Type} {p : Prop} [Decidable p] {a b : α} : (bif decide p then a else b) = if p then a else b := by
  by_cases h : p <;> simp [h]
theorem cond_ndec {α : Type} {p : Prop} [Decidable p] {a b : α} : (bif !decide p then a else b) = if p then b else a := by
  by_cases h : p <;> simp [h]
theorem cond_t {α : Type} {a b : α} : (bif true then a else b) = a := rfl
theorem cond_f {α : Type} {a b : α} : (bif false then a else b) = b := rfl
end Go.RX.S
