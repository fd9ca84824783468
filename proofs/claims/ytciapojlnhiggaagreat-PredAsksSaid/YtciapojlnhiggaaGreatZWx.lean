/- plumblaw22: PredSteps, PredOrders. -/
import Derived.Test.YtciapojlnhiggaaGreatZWv
set_option linter.unusedVariables false
set_option linter.unusedSimpArgs false
namespace Go.RX.S
open Go Go.RX Go.Proofs
theorem sgnQ_p {q : Rat} (h : 0 < q) : sgnQ q = 1 := by
  have h1 : 0 ≤ q.num := Rat.num_nonneg.2 (by grind)
  have h2 : q.num ≠ 0 := fun e => by
    have := Rat.num_eq_zero.1 e
    rw [this] at h
    exact absurd h (by decide +kernel)
  unfold sgnQ sgnI
  rw [if_neg h2, if_neg (by omega)]
theorem sgnQ_n {q : Rat} (h : q < 0) : sgnQ q = -1 := by
  have e : q = -(-q) := by grind
  rw [e, sgnQ_neg, sgnQ_p (by grind)]
theorem tri (q : Rat) : q < 0 ∨ q = 0 ∨ 0 < q := by grind
/-- A pattern's number, in the smallest one's. -/
def mm (b : Int) : Nat := mt b * 2 ^ (ex b + 1074).toNat
theorem fin22F_4 {a b c d : List AV} (ha : isPt a) (hb : isPt b) (hc : isPt c) (hd : isPt d) : fin22F [.agg a, .agg b, .agg c, .agg d] = some (fin a && fin b && fin c && fin d) := by
  have hp : ∀ p ∈ [AV.agg a, .agg b, .agg c, .agg d], isPt p.flds := fun p hp => by
    simp only [List.mem_cons, List.not_mem_nil, or_false] at hp
    rcases hp with rfl | rfl | rfl | rfl <;> assumption
  rw [fin22F, gu_pos ⟨by show 4 ≤ 17592186044416; omega, hp⟩]
  show some (fin a && (fin b && (fin c && (fin d && true)))) = _
  cases fin a <;> cases fin b <;> cases fin c <;> cases fin d <;> rfl
end Go.RX.S
