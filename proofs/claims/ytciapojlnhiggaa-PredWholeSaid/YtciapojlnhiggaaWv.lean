/- plumblaw22: the laws. -/
import Derived.Test.YtciapojlnhiggaaWu
set_option linter.unusedVariables false
set_option linter.unusedSimpArgs false
namespace Go.RX.S
open Go Go.RX Go.Proofs

theorem num22_law {a t : Int} (h : num22F a = some t) : ∃ k : Nat, num22_b0 a = some t := by
  obtain ⟨_, rfl⟩ := gu_eq.1 h
  exact ⟨0, rfl⟩
theorem num22_0 : num22F 0 = some 0 := gu_pos (by unfold I64; omega)
theorem num22_220 : num22F 220 = some 220 := gu_pos (by unfold I64; omega)
theorem bits_ee {a : Int} (ha : Wd a) : andI .u64 (shrI .u64 a 52) 2047 = ee a := by
  obtain ⟨x, rfl, hx⟩ := ha.nat
  have e1 : andI .u64 ((x / 4503599627370496 : Nat) : Int) 2047 = ((x / 4503599627370496 % 2 ^ 11 : Nat) : Int) := and_mask (by omega) 11 2047 rfl (by decide)
  have p1 : (2 : Nat) ^ 11 = 2048 := rfl
  rw [shr52 hx, e1, p1]
  unfold ee
  omega
theorem fin22_loop {l : List AV} (hl : l.length ≤ 17592186044416) (hp : ∀ p ∈ l, isPt p.flds) : ∀ (n i k : Nat), i + n = l.length → n + 1 ≤ k → fin22_L4 k l (i : Int) = some ((l.drop i).all fun p => fin p.flds)
  | n, i, 0, _, hk => by omega
  | 0, i, k + 1, hi, _ => by
    rw [fin22_L4, fin22_b4, cond_dec, if_neg (by omega), List.drop_of_length_le (by omega)]
    rfl
  | n + 1, i, k + 1, hi, hk => by
    have hi' : i < l.length := by omega
    have hpt := hp _ (aget_mem l i hi')
    have e1 : AV.toInt (aget (AV.flds (aget l i)) 0) = px (aget l i).flds := rfl
    have e2 : AV.toInt (aget (AV.flds (aget l i)) 1) = py (aget l i).flds := rfl
    rw [fin22_L4, fin22_b4, cond_dec, if_pos (by omega), inR hi', cond_t, Int.toNat_natCast, e1, e2, bits_ee hpt.1, bits_ee hpt.2, drop_cons hi', List.all_cons, cond_dec, cond_t, cond_dec]
    by_cases c1 : ee (px (aget l i).flds) = 2047
    · have hf : fin (aget l i).flds = false := decide_eq_false (fun h => h.1 c1)
      rw [if_pos c1, hf]
      rfl
    · by_cases c2 : ee (py (aget l i).flds) = 2047
      · have hf : fin (aget l i).flds = false := decide_eq_false (fun h => h.2 c2)
        rw [if_neg c1, if_pos c2, hf]
        rfl
      · have hf : fin (aget l i).flds = true := decide_eq_true ⟨c1, c2⟩
        rw [if_neg c1, if_neg c2, hf, Bool.true_and, inc (by omega)]
        exact fin22_loop hl hp n (i + 1) k (by omega) (by omega)
theorem fin22_law {a : List AV} {t : Bool} (h : fin22F a = some t) : ∃ k : Nat, fin22_b0 (fin22_L4 k) a = some t := by
  obtain ⟨⟨hl, hp⟩, rfl⟩ := gu_eq.1 h
  exact ⟨a.length + 1, fin22_loop hl hp a.length 0 (a.length + 1) (by omega) (by omega)⟩

/-! ### answers -/
theorem pdOrientF_ok {a b c : List AV} (ha : isPt a) (hb : isPt b) (hc : isPt c) : pdOrientF (a, b, c) = some (if fin a && fin b && fin c then (sgnQ (arP a b c), 0) else (0, 220)) := gu_pos ⟨ha, hb, hc⟩
theorem pdArea2F_ok {a b c : List AV} (ha : isPt a) (hb : isPt b) (hc : isPt c) : pdArea2F (a, b, c) = some (if fin a && fin b && fin c then (ratL (arP a b c), 0) else (zeroR, 220)) := gu_pos ⟨ha, hb, hc⟩
theorem pdInCircleF_ok {a b c d : List AV} (ha : isPt a) (hb : isPt b) (hc : isPt c) (hd : isPt d) : pdInCircleF (a, b, c, d) = some (if fin a && fin b && fin c && fin d then (sgnQ (ciP a b c d), 0) else (0, 220)) := gu_pos ⟨ha, hb, hc, hd⟩
theorem pdOrdF_ok {a b : List AV} (ha : isPt a) (hb : isPt b) : pdOrdF (a, b) = some (if fin a && fin b then (orP a b, 0) else (0, 220)) := gu_pos ⟨ha, hb⟩
theorem pdBetweenF_ok {a b c : List AV} (ha : isPt a) (hb : isPt b) (hc : isPt c) : pdBetweenF (a, b, c) = some (if fin a && fin b && fin c then (btP a b c, 0) else (false, 220)) := gu_pos ⟨ha, hb, hc⟩
theorem pdNearerF_ok {a b c d : List AV} (ha : isPt a) (hb : isPt b) (hc : isPt c) (hd : isPt d) : pdNearerF (a, b, c, d) = some (if fin a && fin b && fin c && fin d then (sgnQ (dsP a b - dsP c d), 0) else (0, 220)) := gu_pos ⟨ha, hb, hc, hd⟩
/-- A point of words. -/
def pt (x y : Int) : List AV := [.int .u64 x, .int .u64 y]
theorem isPt_pt {x y : Int} (hx : Wd x) (hy : Wd y) : isPt (pt x y) := ⟨hx, hy⟩
theorem fv_0 : fv 0 = 0 := by decide +kernel
theorem fv_1 : fv 4607182418800017408 = 1 := by decide +kernel
theorem fv_h : fv 4602678819172646912 = 1 / 2 := by decide +kernel
theorem fixed_law {u : Unit} {t : Bool} (h : fixedF u = some t) : ∃ k : Nat, fixed_b0 = some t := by
  obtain ⟨_, rfl⟩ := gu_eq.1 h
  refine ⟨0, ?_⟩
  have w0 : Wd 0 := by unfold Wd; omega
  have w1 : Wd 4607182418800017408 := by unfold Wd; omega
  have wh : Wd 4602678819172646912 := by unfold Wd; omega
  have wi : Wd 9218868437227405312 := by unfold Wd; omega
  have f0 : fin (pt 0 0) = true := by decide +kernel
  have f1 : fin (pt 4607182418800017408 0) = true := by decide +kernel
  have f2 : fin (pt 0 4607182418800017408) = true := by decide +kernel
  have f3 : fin (pt 4602678819172646912 4602678819172646912) = true := by decide +kernel
  have f4 : fin (pt 9218868437227405312 0) = false := by decide +kernel
  have a1 : arP (pt 0 0) (pt 4607182418800017408 0) (pt 0 4607182418800017408) = 1 := by
    show arQ (fv 0) (fv 0) (fv 4607182418800017408) (fv 0) (fv 0) (fv 4607182418800017408) = 1
    rw [fv_0, fv_1]
    decide +kernel
  have a2 : sgnQ (ciP (pt 0 0) (pt 4607182418800017408 0) (pt 0 4607182418800017408) (pt 4602678819172646912 4602678819172646912)) = 1 := by
    show sgnQ (ciQ (fv 0 - fv 4602678819172646912) (fv 0 - fv 4602678819172646912) (fv 4607182418800017408 - fv 4602678819172646912) (fv 0 - fv 4602678819172646912) (fv 0 - fv 4602678819172646912) (fv 4607182418800017408 - fv 4602678819172646912)) = 1
    rw [fv_0, fv_1, fv_h]
    decide +kernel
  have a3 : sgnQ 1 = 1 := by decide +kernel
  have o1 := pdOrientF_ok (isPt_pt w0 w0) (isPt_pt w1 w0) (isPt_pt w0 w1)
  have o2 := pdInCircleF_ok (isPt_pt w0 w0) (isPt_pt w1 w0) (isPt_pt w0 w1) (isPt_pt wh wh)
  have o3 := pdOrdF_ok (isPt_pt w0 w0) (isPt_pt wi w0)
  rw [f0, f1, f2, a1, a3] at o1
  rw [f0, f1, f2, f3, a2] at o2
  rw [f0, f4] at o3
  have o1 := o1.trans (show _ = some ((1 : Int), (0 : Int)) from rfl)
  have o2 := o2.trans (show _ = some ((1 : Int), (0 : Int)) from rfl)
  have o3 := o3.trans (show _ = some ((0 : Int), (220 : Int)) from rfl)
  rw [fixed_b0]
  change Option.bind (pdOrientF (pt 0 0, pt 4607182418800017408 0, pt 0 4607182418800017408)) (fun t => Option.bind (pdInCircleF (pt 0 0, pt 4607182418800017408 0, pt 0 4607182418800017408, pt 4602678819172646912 4602678819172646912)) (fun t_1 => Option.bind (pdOrdF (pt 0 0, pt 9218868437227405312 0)) _)) = _
  rw [o1, Option.bind_some, o2, Option.bind_some, o3, Option.bind_some]
  simp only [num22_0, num22_220, Option.bind_some]
  rfl
theorem fixedF_ok : fixedF PUnit.unit = some true := gu_pos trivial

/-! ### the algebra -/
theorem sgnQ_neg (q : Rat) : sgnQ (-q) = -sgnQ q := by
  unfold sgnQ sgnI
  rw [Rat.neg_num]
  by_cases h : q.num = 0
  · rw [if_pos h, if_pos (by omega)]
    rfl
  · rw [if_neg h, if_neg (by omega)]
    by_cases h2 : q.num < 0
    · rw [if_pos h2, if_neg (by omega)]
      rfl
    · rw [if_neg h2, if_pos (by omega)]
theorem sgnQ_0 : sgnQ 0 = 0 := by decide +kernel
theorem ar_rot (a b c : List AV) : arP b c a = arP a b c := by unfold arP arQ; grind
theorem ar_swap (a b c : List AV) : arP b a c = -arP a b c := by unfold arP arQ; grind
theorem ar_two (a b : List AV) : arP a b a = 0 := by unfold arP arQ; grind
theorem ciQ_rot (p0 p1 q0 q1 r0 r1 : Rat) : ciQ q0 q1 r0 r1 p0 p1 = ciQ p0 p1 q0 q1 r0 r1 := by unfold ciQ sqQ; grind
theorem ciQ_swap (p0 p1 q0 q1 r0 r1 : Rat) : ciQ r0 r1 q0 q1 p0 p1 = -ciQ p0 p1 q0 q1 r0 r1 := by unfold ciQ sqQ; grind
theorem ciQ_out (p0 p1 q0 q1 r0 r1 : Rat) : ciQ (-p0) (-p1) (q0 - p0) (q1 - p1) (r0 - p0) (r1 - p1) = -ciQ p0 p1 q0 q1 r0 r1 := by unfold ciQ sqQ; grind
theorem ciQ_two (p0 p1 r0 r1 : Rat) : ciQ p0 p1 0 0 r0 r1 = 0 := by unfold ciQ sqQ; grind
theorem ci_rot (a b c d : List AV) : ciP b c a d = ciP a b c d := ciQ_rot _ _ _ _ _ _
theorem ci_swap (a b c d : List AV) : ciP c b a d = -ciP a b c d := ciQ_swap _ _ _ _ _ _
theorem ci_out (a b c d : List AV) : ciP d b c a = -ciP a b c d := by
  have h := ciQ_out (X a - X d) (Y a - Y d) (X b - X d) (Y b - Y d) (X c - X d) (Y c - Y d)
  unfold ciP
  rw [← h]
  have e1 : -(X a - X d) = X d - X a := by grind
  have e2 : -(Y a - Y d) = Y d - Y a := by grind
  have e3 : X b - X d - (X a - X d) = X b - X a := by grind
  have e4 : Y b - Y d - (Y a - Y d) = Y b - Y a := by grind
  have e5 : X c - X d - (X a - X d) = X c - X a := by grind
  have e6 : Y c - Y d - (Y a - Y d) = Y c - Y a := by grind
  rw [e1, e2, e3, e4, e5, e6]
theorem ci_two (a b c : List AV) : ciP a b c b = 0 := by
  unfold ciP
  rw [Rat.sub_self, Rat.sub_self]
  exact ciQ_two _ _ _ _

/-! ### PredTurns -/
/-- The i-th point of a list of words. -/
def pn (q : List AV) (i : Nat) : List AV := pt (AV.toInt (aget q (2 * i))) (AV.toInt (aget q (2 * i + 1)))
theorem fin22F_3 {a b c : List AV} (ha : isPt a) (hb : isPt b) (hc : isPt c) : fin22F [.agg a, .agg b, .agg c] = some (fin a && fin b && fin c) := by
  have hp : ∀ p ∈ [AV.agg a, .agg b, .agg c], isPt p.flds := fun p hp => by
    simp only [List.mem_cons, List.not_mem_nil, or_false] at hp
    rcases hp with rfl | rfl | rfl <;> assumption
  rw [fin22F, gu_pos ⟨by show 3 ≤ 17592186044416; omega, hp⟩]
  show some (fin a && (fin b && (fin c && true))) = _
  cases fin a <;> cases fin b <;> cases fin c <;> rfl
theorem fin22F_1 {a : List AV} (ha : isPt a) : fin22F [.agg a] = some (fin a) := by
  have hp : ∀ p ∈ [AV.agg a], isPt p.flds := fun p hp => by
    simp only [List.mem_cons, List.not_mem_nil, or_false] at hp
    rcases hp with rfl
    assumption
  rw [fin22F, gu_pos ⟨by show 1 ≤ 17592186044416; omega, hp⟩]
  show some (fin a && true) = _
  cases fin a <;> rfl
theorem PredTurns_law {q : List AV} {t : Bool} (h : PredTurnsF q = some t) : ∃ k : Nat, PredTurns_b0 q = some t := by
  obtain ⟨hw, rfl⟩ := gu_eq.1 h
  refine ⟨0, ?_⟩
  obtain ⟨A, hA⟩ : ∃ A, A = pn q 0 := ⟨_, rfl⟩
  obtain ⟨B, hB⟩ : ∃ B, B = pn q 1 := ⟨_, rfl⟩
  obtain ⟨C, hC⟩ : ∃ C, C = pn q 2 := ⟨_, rfl⟩
  obtain ⟨D, hD⟩ : ∃ D, D = pn q 3 := ⟨_, rfl⟩
  have pA : isPt A := hA ▸ isPt_pt (hw 0 (by omega)) (hw 1 (by omega))
  have pB : isPt B := hB ▸ isPt_pt (hw 2 (by omega)) (hw 3 (by omega))
  have pC : isPt C := hC ▸ isPt_pt (hw 4 (by omega)) (hw 5 (by omega))
  have pD : isPt D := hD ▸ isPt_pt (hw 6 (by omega)) (hw 7 (by omega))
  have eA : [AV.int .u64 (AV.toInt (aget q 0)), AV.int .u64 (AV.toInt (aget q 1))] = A := hA.symm
  have eB : [AV.int .u64 (AV.toInt (aget q 2)), AV.int .u64 (AV.toInt (aget q 3))] = B := hB.symm
  have eC : [AV.int .u64 (AV.toInt (aget q 4)), AV.int .u64 (AV.toInt (aget q 5))] = C := hC.symm
  have eD : [AV.int .u64 (AV.toInt (aget q 6)), AV.int .u64 (AV.toInt (aget q 7))] = D := hD.symm
  rw [PredTurns_b0]
  simp only [eA, eB, eC, eD, fixedF_ok, Option.bind_some, Bool.not_true, cond_f, pdOrientF_ok pA pB pC, pdOrientF_ok pB pC pA, pdOrientF_ok pB pA pC, pdOrientF_ok pA pB pA, pdInCircleF_ok pA pB pC pD, pdInCircleF_ok pB pC pA pD, pdInCircleF_ok pC pB pA pD, pdInCircleF_ok pD pB pC pA, pdInCircleF_ok pA pB pC pB, pdArea2F_ok pA pB pC, fin22F_3 pA pB pC, fin22F_1 pD]
  cases fA : fin A
  · simp [num22_220]
  cases fB : fin B
  · simp [num22_220]
  cases fC : fin C
  · simp [num22_220]
  simp only [Bool.and_true, Bool.true_and, if_true, Bool.not_true, cond_f, num22_0, Option.bind_some, ar_rot A B C, ar_swap A B C, ar_two A B, sgnQ_neg, sgnQ_0]
  have har : qsz (arP A B C) ≤ 262144 := by
    obtain ⟨a1, a2⟩ := XY pA fA
    obtain ⟨b1, b2⟩ := XY pB fB
    obtain ⟨c1, c2⟩ := XY pC fC
    have := qsz_ar a1 a2 b1 b2 c1 c2
    exact Nat.le_trans this (by omega)
  simp only [rl0, rl1, rl2, rlE, raSignF_ok har, Option.bind_some]
  have r1 := sgnQ_rng (arP A B C)
  have n1 : subI .i64 0 (sgnQ (arP A B C)) = -sgnQ (arP A B C) := by rw [subI_i64 (by omega)]; omega
  rw [n1]
  have z : (!decide ((0 : Int) = 0)) = false := rfl
  simp only [z, cond_f, cond_dec]
  rw [if_neg (by omega), if_neg (by omega)]
  simp only [decide_true, Bool.not_true, cond_f]
  cases fD : fin D
  · simp [num22_220]
  · have r2 := sgnQ_rng (ciP A B C D)
    have n2 : subI .i64 0 (sgnQ (ciP A B C D)) = -sgnQ (ciP A B C D) := by rw [subI_i64 (by omega)]; omega
    simp only [Bool.and_true, Bool.true_and, if_true, Bool.not_true, cond_f, num22_0, Option.bind_some, ci_rot A B C D, ci_swap A B C D, ci_out A B C D, ci_two A B C, sgnQ_neg, sgnQ_0, n2]
    rw [if_pos (by omega), if_pos (by omega)]
    simp
theorem num22_ok : CtrOk Go.Proofs.Try.prog 13 (mkF [.int .i64] [.int .i64] num22F) := by
  refine mkF_ok (c := bodyOf Go.Proofs.Try.f13) (tab := S.tab) (cts := []) (res := [2]) tab_ok hm trivial Go.Proofs.Try.func13 (by kernel_rfl) (by kernel_rfl) (by kernel_rfl) (by kernel_rfl) (by kernel_rfl) ?_
  rintro a t h
  obtain ⟨k, hk⟩ := num22_law h
  exact ⟨num22_h, 3000, k, (num22_ev k a).trans hk⟩

theorem fin22_ok : CtrOk Go.Proofs.Try.prog 12 (mkF [.sl (.st [.int .u64, .int .u64])] [.bool] fin22F) := by
  refine mkF_ok (c := bodyOf Go.Proofs.Try.f12) (tab := S.tab) (cts := []) (res := [2]) tab_ok hm trivial Go.Proofs.Try.func12 (by kernel_rfl) (by kernel_rfl) (by kernel_rfl) (by kernel_rfl) (by kernel_rfl) ?_
  rintro a t h
  obtain ⟨k, hk⟩ := fin22_law h
  exact ⟨fin22_h, 3000, k, (fin22_ev k a).trans hk⟩

theorem fixed_ok : CtrOk Go.Proofs.Try.prog 9 (mkF [] [.bool] fixedF) := by
  refine mkF_ok (c := bodyOf Go.Proofs.Try.f9) (tab := S.tab) (cts := [(10, mkF [.st [.int .u64, .int .u64], .st [.int .u64, .int .u64], .st [.int .u64, .int .u64]] [.int .i64, .int .i64] pdOrientF), (11, mkF [.st [.int .u64, .int .u64], .st [.int .u64, .int .u64], .st [.int .u64, .int .u64], .st [.int .u64, .int .u64]] [.int .i64, .int .i64] pdInCircleF), (17, mkF [.st [.int .u64, .int .u64], .st [.int .u64, .int .u64]] [.int .i64, .int .i64] pdOrdF), (13, mkF [.int .i64] [.int .i64] num22F)]) (res := [0]) tab_ok hm ⟨pdOrient_ok, pdInCircle_ok, pdOrd_ok, num22_ok, trivial⟩ Go.Proofs.Try.func9 (by kernel_rfl) (by kernel_rfl) (by kernel_rfl) (by kernel_rfl) (by kernel_rfl) ?_
  rintro ⟨⟩ t h
  obtain ⟨k, hk⟩ := fixed_law h
  exact ⟨fixed_h, 3000, k, (fixed_ev k ).trans hk⟩

theorem PredTurns_ok : CtrOk Go.Proofs.Try.prog 3 (mkF [.st [.int .u64, .int .u64, .int .u64, .int .u64, .int .u64, .int .u64, .int .u64, .int .u64]] [.bool] PredTurnsF) := by
  refine mkF_ok (c := bodyOf Go.Proofs.Try.f3) (tab := S.tab) (cts := [(9, mkF [] [.bool] fixedF), (10, mkF [.st [.int .u64, .int .u64], .st [.int .u64, .int .u64], .st [.int .u64, .int .u64]] [.int .i64, .int .i64] pdOrientF), (11, mkF [.st [.int .u64, .int .u64], .st [.int .u64, .int .u64], .st [.int .u64, .int .u64], .st [.int .u64, .int .u64]] [.int .i64, .int .i64] pdInCircleF), (12, mkF [.sl (.st [.int .u64, .int .u64])] [.bool] fin22F), (13, mkF [.int .i64] [.int .i64] num22F), (14, mkF [.st [.int .u64, .int .u64], .st [.int .u64, .int .u64], .st [.int .u64, .int .u64]] [.st [.bool, .sl (.int .u64), .sl (.int .u64)], .int .i64] pdArea2F), (15, mkF [.st [.bool, .sl (.int .u64), .sl (.int .u64)]] [.int .i64] raSignF)]) (res := [2]) tab_ok hm ⟨fixed_ok, pdOrient_ok, pdInCircle_ok, fin22_ok, num22_ok, pdArea2_ok, raSign_ok, trivial⟩ Go.Proofs.Try.func3 (by kernel_rfl) (by kernel_rfl) (by kernel_rfl) (by kernel_rfl) (by kernel_rfl) ?_
  rintro a t h
  obtain ⟨k, hk⟩ := PredTurns_law h
  exact ⟨PredTurns_h, 3000, k, (PredTurns_ev k a).trans hk⟩

end Go.RX.S
