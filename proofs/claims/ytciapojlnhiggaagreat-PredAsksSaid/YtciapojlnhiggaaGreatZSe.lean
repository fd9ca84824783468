/- Digits of any base; what the document's functions answer. -/
import Derived.Test.YtciapojlnhiggaaGreatZSd
set_option linter.unusedVariables false
set_option linter.unusedSimpArgs false
namespace Go.RX.S
open Go Go.RX
/-- The number that digits stand for, the lowest first. -/
def gval (b : Nat) : List Int → Nat
  | [] => 0
  | x :: xs => x.toNat + b * gval b xs
/-- All are below a bound, and not below 0. -/
def Dg (b : Nat) (l : List Int) : Prop := ∀ x ∈ l, 0 ≤ x ∧ x < (b : Int)
section
variable {b : Nat}
theorem Dg.cons {x : Int} {xs : List Int} : Dg b (x :: xs) ↔ (0 ≤ x ∧ x < (b : Int)) ∧ Dg b xs := by simp [Dg]
theorem Dg.nil : Dg b [] := by simp [Dg]
theorem Dg.append {l m : List Int} : Dg b (l ++ m) ↔ Dg b l ∧ Dg b m := by
  constructor
  · intro h
    exact ⟨fun x hx => h x (by simp [hx]), fun x hx => h x (by simp [hx])⟩
  · rintro ⟨h1, h2⟩ x hx
    rcases List.mem_append.1 hx with h | h
    · exact h1 x h
    · exact h2 x h
theorem Dg.take {l : List Int} (h : Dg b l) (n : Nat) : Dg b (l.take n) := fun x hx => h x (List.mem_of_mem_take hx)
theorem Dg.drop {l : List Int} (h : Dg b l) (n : Nat) : Dg b (l.drop n) := fun x hx => h x (List.mem_of_mem_drop hx)
theorem Dg.rep (hb : 0 < b) (n : Nat) : Dg b (List.replicate n 0) := fun x hx => by simp at hx; omega
theorem Dg.get {l : List Int} (hb : 0 < b) (h : Dg b l) (i : Nat) : 0 ≤ l.getD i 0 ∧ l.getD i 0 < (b : Int) := by
  rw [List.getD_eq_getElem?_getD]
  cases hi : l[i]? with
  | none => simp; omega
  | some x => exact h x (List.mem_of_getElem? hi)
theorem gval_cons (x : Int) (xs : List Int) : gval b (x :: xs) = x.toNat + b * gval b xs := rfl
theorem gval_one {x : Int} : gval b [x] = x.toNat := by simp [gval]
theorem gval_append : ∀ (l m : List Int), gval b (l ++ m) = gval b l + b ^ l.length * gval b m
  | [], m => by simp [gval]
  | x :: xs, m => by
    rw [List.cons_append, gval_cons, gval_append xs m, gval_cons, List.length_cons, Nat.pow_succ]
    grind
theorem gval_rep : ∀ n, gval b (List.replicate n 0) = 0
  | 0 => rfl
  | n + 1 => by rw [List.replicate_succ, gval_cons, gval_rep n]; rfl
theorem gval_snoc (pre : List Int) (s : Int) : gval b (pre ++ [s]) = gval b pre + b ^ pre.length * s.toNat := by
  rw [gval_append, gval_one]
end
/-- A list that is worked by hand: not long. -/
def K (x : List Int) : Prop := W64 x ∧ x.length ≤ 1000
noncomputable section
/-- As long as a caller's list may be. -/
def L (x : List Int) : Prop := W64 x ∧ x.length ≤ 17592186043904
def numF (n : Int) : Option Int := gu (I64 n) n
def keptF (t : List Int × List Int) : Option Bool := gu (L t.2 ∧ t.1.length ≤ 17609365913600) (@decide (t.1 = t.2 ++ [7777, 8888]) (Classical.propDecidable _))
def powF (v : Nat) (n : Int) : List Int × Int := if n < 0 then ([], 31) else if n = 0 then (can 1, 0) else if v < 2 then (can v, 0) else if v ^ n.toNat < Lim then (can (v ^ n.toNat), 0) else ([], 21)
def r3NormF (x : List Int) : Option (List Int) := gu (V x) (can (val x))
def r3BitsF (x : List Int) : Option Int := gu (V x) (blen (val x) : Int)
def r3MulF (t : List Int × List Int) : Option (List Int) := gu (W64 t.1 ∧ W64 t.2 ∧ t.1.length ≤ 100000000 ∧ t.2.length ≤ 100000000) (can (val t.1 * val t.2))
def wDivF (t : Int × Int × Int) : Option (Int × Int × Int) := gu (Wd t.1 ∧ Wd t.2.1 ∧ Wd t.2.2 ∧ t.1 < t.2.2) (((t.1.toNat * 18446744073709551616 + t.2.1.toNat) / t.2.2.toNat : Nat), ((t.1.toNat * 18446744073709551616 + t.2.1.toNat) % t.2.2.toNat : Nat), 0)
/-- Shifted to the left by fewer than 64 bits, so many words. -/
def qshlF (t : List Int × Int × Int) : Option (List Int) := gu (V t.1 ∧ 0 ≤ t.2.1 ∧ t.2.1 < 64 ∧ (t.2.2 = t.1.length ∨ t.2.2 = t.1.length + 1) ∧ val t.1 * 2 ^ t.2.1.toNat < 18446744073709551616 ^ t.2.2.toNat) (dig t.2.2.toNat (val t.1 * 2 ^ t.2.1.toNat))
def qshrF (t : List Int × Int) : Option (List Int) := gu (V t.1 ∧ 0 ≤ t.2 ∧ t.2 < 64) (can (val t.1 / 2 ^ t.2.toNat))
def qSmallF (t : List Int × Int) : Option (List Int × Int × Int) := gu (V t.1 ∧ Wd t.2) (if t.2 = 0 then ([], 0, 30) else (can (val t.1 / t.2.toNat), ((val t.1 % t.2.toNat : Nat) : Int), 0))
/-- A piece of a row less a word's multiple, and whether that was too much. -/
def takeF (t : List Int × List Int × Int) : Option (List Int × Bool) := gu (W64 t.1 ∧ V t.2.1 ∧ Wd t.2.2 ∧ t.1.length = t.2.1.length + 1) (dig t.1.length ((18446744073709551616 ^ t.1.length + val t.1 - val t.2.1 * t.2.2.toNat) % 18446744073709551616 ^ t.1.length), decide (val t.1 < val t.2.1 * t.2.2.toNat))
/-- A piece of a row and another, what is carried out of it gone. -/
def giveF (t : List Int × List Int) : Option (List Int × Unit) := gu (W64 t.1 ∧ V t.2 ∧ t.1.length = t.2.length + 1) (dig t.1.length ((val t.1 + val t.2) % 18446744073709551616 ^ t.1.length), ())
def longF (t : List Int × List Int) : Option (List Int × List Int) := gu (V t.1 ∧ V t.2 ∧ t.1 = can (val t.1) ∧ t.2 = can (val t.2) ∧ 2 ≤ t.2.length ∧ val t.2 ≤ val t.1) (can (val t.1 / val t.2), can (val t.1 % val t.2))
def DivModF (t : List Int × List Int) : Option (List Int × List Int × Int) := gu (V t.1 ∧ V t.2) (if val t.2 = 0 then ([], [], 30) else (can (val t.1 / val t.2), can (val t.1 % val t.2), 0))
end
end Go.RX.S
