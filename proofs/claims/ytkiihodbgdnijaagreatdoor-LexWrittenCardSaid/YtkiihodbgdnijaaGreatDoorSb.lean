/- Numbers by words: what lists of words of 64 bits stand for, and the list of a number. -/
import Derived.Test.YtkiihodbgdnijaaGreatDoorSa
import Derived.WalkKit
import Derived.IntWalk
set_option linter.unusedVariables false
set_option linter.unusedSimpArgs false
namespace Go.RX.S
open Go Go.RX

/-- The number that words stand for, the lowest first. -/
def val : List Int → Nat
  | [] => 0
  | x :: xs => x.toNat + 18446744073709551616 * val xs

/-- All are words. -/
def W64 (l : List Int) : Prop := ∀ x ∈ l, 0 ≤ x ∧ x < 18446744073709551616

/-- A list as one may meet it. -/
def U (l : List Int) : Prop := W64 l ∧ l.length ≤ 17609365913600

/-- n words of a number. -/
def dig : Nat → Nat → List Int
  | 0, _ => []
  | n + 1, v => ((v % 18446744073709551616 : Nat) : Int) :: dig n (v / 18446744073709551616)

/-- The words of a number, none more than needed. -/
def can (v : Nat) : List Int :=
  if h : v = 0 then [] else ((v % 18446744073709551616 : Nat) : Int) :: can (v / 18446744073709551616)
termination_by v
decreasing_by omega

/-- How many words are left without zeros at the high end. -/
def sz : List Int → Nat
  | [] => 0
  | x :: xs => if sz xs = 0 then (if x = 0 then 0 else 1) else sz xs + 1

theorem W64.cons {x : Int} {xs : List Int} : W64 (x :: xs) ↔ (0 ≤ x ∧ x < 18446744073709551616) ∧ W64 xs := by simp [W64]
theorem W64.nil : W64 [] := by simp [W64]
theorem W64.append {a b : List Int} : W64 (a ++ b) ↔ W64 a ∧ W64 b := by
  constructor
  · intro h
    exact ⟨fun x hx => h x (by simp [hx]), fun x hx => h x (by simp [hx])⟩
  · rintro ⟨h1, h2⟩ x hx
    rcases List.mem_append.1 hx with h | h
    · exact h1 x h
    · exact h2 x h
theorem W64.take {l : List Int} (h : W64 l) (n : Nat) : W64 (l.take n) := fun x hx => h x (List.mem_of_mem_take hx)
theorem W64.drop {l : List Int} (h : W64 l) (n : Nat) : W64 (l.drop n) := fun x hx => h x (List.mem_of_mem_drop hx)
theorem W64.rep (n : Nat) : W64 (List.replicate n 0) := fun x hx => by simp at hx; omega
theorem W64.get {l : List Int} (h : W64 l) (i : Nat) : 0 ≤ l.getD i 0 ∧ l.getD i 0 < 18446744073709551616 := by
  rw [List.getD_eq_getElem?_getD]
  cases hi : l[i]? with
  | none => simp
  | some x => exact h x (List.mem_of_getElem? hi)
theorem U.take {l : List Int} (h : U l) (n : Nat) : U (l.take n) := ⟨h.1.take n, by have := h.2; simp only [List.length_take]; omega⟩

@[simp] theorem val_nil : val [] = 0 := rfl
theorem val_cons (x : Int) (xs : List Int) : val (x :: xs) = x.toNat + 18446744073709551616 * val xs := rfl
theorem val_append : ∀ (a b : List Int), val (a ++ b) = val a + 18446744073709551616 ^ a.length * val b
  | [], b => by simp
  | x :: xs, b => by
    rw [List.cons_append, val_cons, val_append xs b, val_cons, List.length_cons, Nat.pow_succ]
    grind
theorem val_rep : ∀ n, val (List.replicate n 0) = 0
  | 0 => rfl
  | n + 1 => by rw [List.replicate_succ, val_cons, val_rep n]; rfl
theorem val_lt : ∀ {l : List Int}, W64 l → val l < 18446744073709551616 ^ l.length
  | [], _ => by simp
  | x :: xs, h => by
    rw [W64.cons] at h
    have := val_lt h.2
    rw [val_cons, List.length_cons, Nat.pow_succ]
    omega
theorem dig_len : ∀ n v, (dig n v).length = n
  | 0, _ => rfl
  | n + 1, v => by simp [dig, dig_len n]
theorem dig_ok : ∀ n v, W64 (dig n v)
  | 0, _ => W64.nil
  | n + 1, v => by
    rw [dig, W64.cons]
    exact ⟨by omega, dig_ok n _⟩
theorem dig_val : ∀ {l : List Int}, W64 l → dig l.length (val l) = l
  | [], _ => rfl
  | x :: xs, h => by
    rw [W64.cons] at h
    have ih := dig_val h.2
    rw [List.length_cons, dig, val_cons]
    have h1 : (x.toNat + 18446744073709551616 * val xs) % 18446744073709551616 = x.toNat := by omega
    have h2 : (x.toNat + 18446744073709551616 * val xs) / 18446744073709551616 = val xs := by omega
    rw [h1, h2, ih]
    congr 1
    omega
theorem val_dig : ∀ n v, v < 18446744073709551616 ^ n → val (dig n v) = v
  | 0, v, h => by simp at h; simp [dig, h]
  | n + 1, v, h => by
    rw [dig, val_cons, val_dig n]
    · omega
    · rw [Nat.pow_succ] at h
      omega
theorem can_zero : can 0 = [] := by rw [can]; simp
theorem can_pos {v : Nat} (h : v ≠ 0) : can v = ((v % 18446744073709551616 : Nat) : Int) :: can (v / 18446744073709551616) := by rw [can]; simp [h]
theorem can_ok (v : Nat) : W64 (can v) := by
  induction v using Nat.strongRecOn with
  | ind v ih =>
    by_cases h : v = 0
    · rw [h, can_zero]; exact W64.nil
    · rw [can_pos h, W64.cons]
      exact ⟨by omega, ih _ (by omega)⟩
theorem val_can (v : Nat) : val (can v) = v := by
  induction v using Nat.strongRecOn with
  | ind v ih =>
    by_cases h : v = 0
    · rw [h, can_zero]; rfl
    · rw [can_pos h, val_cons, ih _ (by omega)]
      omega
theorem can_len : ∀ {n v : Nat}, v < 18446744073709551616 ^ n → (can v).length ≤ n
  | 0, v, h => by simp at h; simp [h, can_zero]
  | n + 1, v, h => by
    by_cases h0 : v = 0
    · simp [h0, can_zero]
    · rw [can_pos h0, List.length_cons]
      have := can_len (n := n) (v := v / 18446744073709551616) (by rw [Nat.pow_succ] at h; omega)
      omega
theorem can_len_lt (v : Nat) : v < 18446744073709551616 ^ (can v).length := by
  have := val_lt (can_ok v)
  rwa [val_can] at this
theorem can_inj {a b : Nat} : can a = can b ↔ a = b := by
  constructor
  · intro h
    have := congrArg val h
    rwa [val_can, val_can] at this
  · rintro rfl; rfl
theorem can_nil {a : Nat} : can a = [] ↔ a = 0 := by
  rw [← can_zero, can_inj]
theorem can_U {v : Nat} (h : v < 18446744073709551616 ^ 8192) : U (can v) := ⟨can_ok v, by have := can_len h; omega⟩

theorem sz_le : ∀ l, sz l ≤ l.length
  | [] => by simp [sz]
  | x :: xs => by
    have := sz_le xs
    simp only [sz, List.length_cons]
    split
    · split <;> omega
    · omega
theorem val_zero : ∀ {l : List Int}, W64 l → (val l = 0 ↔ sz l = 0)
  | [], _ => by simp [sz]
  | x :: xs, h => by
    rw [W64.cons] at h
    have := val_zero h.2
    rw [val_cons]
    simp only [sz]
    by_cases h0 : sz xs = 0
    · have h1 := this.2 h0
      rw [if_pos h0, h1]
      split <;> omega
    · rw [if_neg h0]
      have h1 : val xs ≠ 0 := fun h => h0 (this.1 h)
      omega
theorem can_val : ∀ {l : List Int}, W64 l → can (val l) = l.take (sz l)
  | [], _ => by simp [can_zero]
  | x :: xs, h => by
    have hh := h
    rw [W64.cons] at h
    have ih := can_val h.2
    by_cases h0 : val (x :: xs) = 0
    · rw [h0, can_zero, (val_zero hh).1 h0]; rfl
    · have hs : sz (x :: xs) = sz xs + 1 := by
        have h1 : sz (x :: xs) ≠ 0 := fun e => h0 ((val_zero hh).2 e)
        simp only [sz] at h1 ⊢
        split at h1
        · split at h1
          · omega
          · rename_i h2 h3
            rw [if_pos h2, if_neg h3, h2]
        · rename_i h2
          rw [if_neg h2]
      rw [can_pos h0, hs, List.take_succ_cons]
      rw [val_cons] at h0 ⊢
      have h1 : (x.toNat + 18446744073709551616 * val xs) % 18446744073709551616 = x.toNat := by omega
      have h2 : (x.toNat + 18446744073709551616 * val xs) / 18446744073709551616 = val xs := by omega
      rw [h1, h2, ih]
      congr 1
      omega
theorem len_can_val {l : List Int} (h : W64 l) : (can (val l)).length = sz l := by
  rw [can_val h, List.length_take]
  have := sz_le l
  omega
theorem can_len_iff (n v : Nat) : (can v).length ≤ n ↔ v < 18446744073709551616 ^ n := by
  constructor
  · intro h
    exact Nat.lt_of_lt_of_le (can_len_lt v) (Nat.pow_le_pow_right (by omega) h)
  · exact can_len
/-- The highest word of a number is not 0. -/
theorem can_top : ∀ (n v : Nat), (can v).length = n + 1 → (can v).getD n 0 ≠ 0
  | 0, v, h => by
    have hv : v ≠ 0 := by
      rintro rfl
      simp [can_zero] at h
    have h1 := (can_len_iff 1 v).1 (by omega)
    rw [can_pos hv]
    simp only [List.getD_cons_zero]
    omega
  | n + 1, v, h => by
    have hv : v ≠ 0 := by
      rintro rfl
      simp [can_zero] at h
    rw [can_pos hv] at h ⊢
    rw [List.length_cons] at h
    rw [List.getD_cons_succ]
    exact can_top n _ (by omega)

/-! ### words -/
theorem addI_u64 (a b : Int) : addI .u64 a b = (a + b) % 18446744073709551616 := by rw [addI, IntKind.wrap_u64]
theorem subI_u64 (a b : Int) : subI .u64 a b = (a - b) % 18446744073709551616 := by rw [subI, IntKind.wrap_u64]
theorem mulI_u64 (a b : Int) : mulI .u64 a b = (a * b) % 18446744073709551616 := by rw [mulI, IntKind.wrap_u64]
theorem addI_i64 {a b : Int} (h : -9223372036854775808 ≤ a + b ∧ a + b ≤ 9223372036854775807) : addI .i64 a b = a + b := by rw [addI]; exact IntWalk.i64_in _ h
theorem subI_i64 {a b : Int} (h : -9223372036854775808 ≤ a - b ∧ a - b ≤ 9223372036854775807) : subI .i64 a b = a - b := by rw [subI]; exact IntWalk.i64_in _ h
theorem mulI_i64 {a b : Int} (h : -9223372036854775808 ≤ a * b ∧ a * b ≤ 9223372036854775807) : mulI .i64 a b = a * b := by rw [mulI]; exact IntWalk.i64_in _ h
theorem cvI_i64 {a : Int} (h : -9223372036854775808 ≤ a ∧ a ≤ 9223372036854775807) : cvI .i64 a = a := by rw [cvI]; exact IntWalk.i64_in _ h
theorem cvI_u64 {a : Int} (h : 0 ≤ a ∧ a ≤ 18446744073709551615) : cvI .u64 a = a := by rw [cvI]; exact IntWalk.u64_in _ h
theorem andI_u64 (a b : Nat) (ha : a < 18446744073709551616) (hb : b < 18446744073709551616) : andI .u64 a b = ((a &&& b : Nat) : Int) := by
  have h1 : (IntKind.u64).bits = 64 := rfl
  rw [andI, h1]
  simp only [BitVec.toNat_and, BitVec.toNat_ofInt]
  rw [IntKind.wrap_u64]
  have e1 : ((a : Int) % ((2 ^ 64 : Nat) : Int)).toNat = a := by omega
  have e2 : ((b : Int) % ((2 ^ 64 : Nat) : Int)).toNat = b := by omega
  rw [e1, e2]
  have := Nat.and_le_left (n := a) (m := b)
  omega
theorem orI_u64 (a b : Nat) (ha : a < 18446744073709551616) (hb : b < 18446744073709551616) : orI .u64 a b = ((a ||| b : Nat) : Int) := by
  have h1 : (IntKind.u64).bits = 64 := rfl
  rw [orI, h1]
  simp only [BitVec.toNat_or, BitVec.toNat_ofInt]
  rw [IntKind.wrap_u64]
  have e1 : ((a : Int) % ((2 ^ 64 : Nat) : Int)).toNat = a := by omega
  have e2 : ((b : Int) % ((2 ^ 64 : Nat) : Int)).toNat = b := by omega
  rw [e1, e2]
  have := Nat.or_lt_two_pow (n := 64) (x := a) (y := b) (by omega) (by omega)
  omega
/-- The bits of a number. -/
def blen (v : Nat) : Nat := if v = 0 then 0 else v.log2 + 1
theorem blen_lt (v : Nat) : v < 2 ^ blen v := by
  unfold blen
  split
  · simp_all
  · exact Nat.lt_log2_self
theorem blen_ge {v : Nat} (h : v ≠ 0) : 2 ^ (blen v - 1) ≤ v := by
  unfold blen
  rw [if_neg h]
  exact Nat.log2_self_le h
theorem blen_le_iff (n v : Nat) : blen v ≤ n ↔ v < 2 ^ n := by
  constructor
  · intro h
    exact Nat.lt_of_lt_of_le (blen_lt v) (Nat.pow_le_pow_right (by omega) h)
  · intro h
    by_cases h0 : v = 0
    · simp [blen, h0]
    · have h1 := blen_ge h0
      have h2 : 2 ^ (blen v - 1) < 2 ^ n := by omega
      have := (Nat.pow_lt_pow_iff_right (a := 2) (by omega)).1 h2
      omega
theorem blen_unique {n v : Nat} (h1 : v < 2 ^ n) (h2 : n = 0 ∨ 2 ^ (n - 1) ≤ v) : blen v = n := by
  have a := (blen_le_iff n v).2 h1
  rcases h2 with h2 | h2
  · omega
  · by_cases hn : n = 0
    · omega
    · have b : ¬ blen v ≤ n - 1 := fun h => by
        have := (blen_le_iff (n - 1) v).1 h
        omega
      omega
end Go.RX.S
