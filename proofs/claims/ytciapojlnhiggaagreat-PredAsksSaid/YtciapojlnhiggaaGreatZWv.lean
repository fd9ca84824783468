/- plumblaw22: the laws. -/
import Derived.Test.YtciapojlnhiggaaGreatZWu
set_option linter.unusedVariables false
set_option linter.unusedSimpArgs false
namespace Go.RX.S
open Go Go.RX Go.Proofs
theorem num22_law {a t : Int} (h : num22F a = some t) : ∃ k : Nat, num22_b0 a = some t := by
  obtain ⟨_, rfl⟩ := gu_eq.1 h
  exact ⟨0, rfl⟩
theorem bits_ee {a : Int} (ha : Wd a) : andI .u64 (shrI .u64 a 52) 2047 = ee a := by
  obtain ⟨x, rfl, hx⟩ := ha.nat
  have e1 : andI .u64 ((x / 4503599627370496 : Nat) : Int) 2047 = ((x / 4503599627370496 % 2 ^ 11 : Nat) : Int) := and_mask (by omega) 11 2047 rfl (by decide)
  have p1 : (2 : Nat) ^ 11 = 2048 := rfl
  rw [shr52 hx, e1, p1]
  unfold ee
  omega
theorem pdOrientF_ok {a b c : List AV} (ha : isPt a) (hb : isPt b) (hc : isPt c) : pdOrientF (a, b, c) = some (if fin a && fin b && fin c then (sgnQ (arP a b c), 0) else (0, 220)) := gu_pos ⟨ha, hb, hc⟩
theorem pdArea2F_ok {a b c : List AV} (ha : isPt a) (hb : isPt b) (hc : isPt c) : pdArea2F (a, b, c) = some (if fin a && fin b && fin c then (ratL (arP a b c), 0) else (zeroR, 220)) := gu_pos ⟨ha, hb, hc⟩
theorem pdInCircleF_ok {a b c d : List AV} (ha : isPt a) (hb : isPt b) (hc : isPt c) (hd : isPt d) : pdInCircleF (a, b, c, d) = some (if fin a && fin b && fin c && fin d then (sgnQ (ciP a b c d), 0) else (0, 220)) := gu_pos ⟨ha, hb, hc, hd⟩
theorem pdOrdF_ok {a b : List AV} (ha : isPt a) (hb : isPt b) : pdOrdF (a, b) = some (if fin a && fin b then (orP a b, 0) else (0, 220)) := gu_pos ⟨ha, hb⟩
theorem pdBetweenF_ok {a b c : List AV} (ha : isPt a) (hb : isPt b) (hc : isPt c) : pdBetweenF (a, b, c) = some (if fin a && fin b && fin c then (btP a b c, 0) else (false, 220)) := gu_pos ⟨ha, hb, hc⟩
theorem pdNearerF_ok {a b c d : List AV} (ha : isPt a) (hb : isPt b) (hc : isPt c) (hd : isPt d) : pdNearerF (a, b, c, d) = some (if fin a && fin b && fin c && fin d then (sgnQ (dsP a b - dsP c d), 0) else (0, 220)) := gu_pos ⟨ha, hb, hc, hd⟩
/-- A point of words. -/
def pt (x y : Int) : List AV := [.int .u64 x, .int .u64 y]
theorem isPt_pt {x y : Int} (hx : Wd x) (hy : Wd y) : isPt (pt x y) := ⟨hx, hy⟩
theorem sgnQ_neg (q : Rat) : sgnQ (-q) = -sgnQ q := by
  unfold sgnQ sgnI
  rw [Rat.neg_num]
  by_cases h : q.num = 0
  · rw [if_pos h, if_pos (by omega)]
    rfl
  · rw [if_neg h, if_neg (by omega)]
    by_cases h2 : q.num < 0
    · rw [if_pos h2, if_neg (by omega)]
      rfl
    · rw [if_neg h2, if_pos (by omega)]
/-- The i-th point of a list of words. -/
def pn (q : List AV) (i : Nat) : List AV := pt (AV.toInt (aget q (2 * i))) (AV.toInt (aget q (2 * i + 1)))
theorem fin22F_3 {a b c : List AV} (ha : isPt a) (hb : isPt b) (hc : isPt c) : fin22F [.agg a, .agg b, .agg c] = some (fin a && fin b && fin c) := by
  have hp : ∀ p ∈ [AV.agg a, .agg b, .agg c], isPt p.flds := fun p hp => by
    simp only [List.mem_cons, List.not_mem_nil, or_false] at hp
    rcases hp with rfl | rfl | rfl <;> assumption
  rw [fin22F, gu_pos ⟨by show 3 ≤ 17592186044416; omega, hp⟩]
  show some (fin a && (fin b && (fin c && true))) = _
  cases fin a <;> cases fin b <;> cases fin c <;> rfl
theorem num22_ok : CtrOk Go.Proofs.Tryz.prog 9 (mkF [.int .i64] [.int .i64] num22F) := by
  refine mkF_ok (c := bodyOf Go.Proofs.Tryz.f9) (tab := S.tab) (cts := []) (res := [2]) tab_ok hm trivial Go.Proofs.Tryz.func9 (by kernel_rfl) (by kernel_rfl) (by kernel_rfl) (by kernel_rfl) (by kernel_rfl) ?_
  rintro a t h
  obtain ⟨k, hk⟩ := num22_law h
  exact ⟨num22_h, 3000, k, (num22_ev k a).trans hk⟩
end Go.RX.S
