/- plumblaw22: PredSteps, PredOrders. -/
import Derived.Test.YtciapojlnhiggaaWv
set_option linter.unusedVariables false
set_option linter.unusedSimpArgs false
namespace Go.RX.S
open Go Go.RX Go.Proofs

/-! ### signs -/
theorem sgnQ_p {q : Rat} (h : 0 < q) : sgnQ q = 1 := by
  have h1 : 0 ≤ q.num := Rat.num_nonneg.2 (by grind)
  have h2 : q.num ≠ 0 := fun e => by
    have := Rat.num_eq_zero.1 e
    rw [this] at h
    exact absurd h (by decide +kernel)
  unfold sgnQ sgnI
  rw [if_neg h2, if_neg (by omega)]
theorem sgnQ_n {q : Rat} (h : q < 0) : sgnQ q = -1 := by
  have e : q = -(-q) := by grind
  rw [e, sgnQ_neg, sgnQ_p (by grind)]
theorem tri (q : Rat) : q < 0 ∨ q = 0 ∨ 0 < q := by grind
theorem sgnQ_cases (q : Rat) : (q < 0 ∧ sgnQ q = -1) ∨ (q = 0 ∧ sgnQ q = 0) ∨ (0 < q ∧ sgnQ q = 1) := by
  rcases tri q with h | h | h
  · exact Or.inl ⟨h, sgnQ_n h⟩
  · exact Or.inr (Or.inl ⟨h, by rw [h]; exact sgnQ_0⟩)
  · exact Or.inr (Or.inr ⟨h, sgnQ_p h⟩)
theorem sq_p {x : Rat} (h : x ≠ 0) : 0 < x * x := by
  rcases tri x with h | h | h
  · have := Rat.mul_pos (show 0 < -x by grind) (show 0 < -x by grind)
    grind
  · contradiction
  · exact Rat.mul_pos h h
theorem sq_nn (x : Rat) : 0 ≤ x * x := by
  by_cases h : x = 0
  · rw [h]; decide +kernel
  · exact Rat.le_of_lt (sq_p h)
theorem orQ_cases (ax ay bx bY : Rat) : (orQ ax ay bx bY = -1 ∧ (ax < bx ∨ ax = bx ∧ ay < bY)) ∨ (orQ ax ay bx bY = 0 ∧ ax = bx ∧ ay = bY) ∨ (orQ ax ay bx bY = 1 ∧ (bx < ax ∨ ax = bx ∧ bY < ay)) := by
  unfold orQ
  rcases sgnQ_cases (ax - bx) with ⟨h, e⟩ | ⟨h, e⟩ | ⟨h, e⟩ <;> rw [e] <;> rcases sgnQ_cases (ay - bY) with ⟨h2, e2⟩ | ⟨h2, e2⟩ | ⟨h2, e2⟩ <;> rw [e2] <;> grind

/-! ### patterns rise -/
/-- A pattern's number, in the smallest one's. -/
def mm (b : Int) : Nat := mt b * 2 ^ (ex b + 1074).toNat
def ww (K : Nat) : Rat := mkRat 1 (2 ^ K)
theorem ww_p (K : Nat) : 0 < ww K := by
  have h : 0 < 2 ^ K := Nat.pow_pos (by omega)
  unfold ww
  rw [Rat.mkRat_eq_div, Rat.div_def]
  refine Rat.mul_pos (by decide +kernel) (Rat.inv_pos.2 ?_)
  exact Rat.natCast_pos.2 h
theorem pw_n0 (K : Nat) : 2 ^ K ≠ 0 := Nat.pos_iff_ne_zero.1 (Nat.pow_pos (by omega))
theorem fv_mm {b : Int} (hb : Wd b) (hn : ng b = false) (he : ee b ≠ 2047) (K : Nat) (hK : K = 1074) : fv b = ((mm b : Int) : Rat) * ww K := by
  have hr := ex_rng hb he
  have e1 : (((mm b : Int) : Rat)) = mkRat (mm b : Int) 1 := (Rat.mkRat_one _).symm
  rw [e1, ww, Rat.mkRat_mul_mkRat]
  unfold fv
  rw [hn]
  have e2 : sg false (mt b * 2 ^ (ex b).toNat) = ((mt b * 2 ^ (ex b).toNat : Nat) : Int) := rfl
  rw [e2, Rat.mkRat_eq_iff (pw_n0 _) (by rw [Nat.one_mul]; exact pw_n0 _), Int.mul_one, Nat.one_mul, ← Int.natCast_mul, ← Int.natCast_mul]
  refine congrArg Nat.cast ?_
  unfold mm
  rw [Nat.mul_assoc, Nat.mul_assoc, ← Nat.pow_add, ← Nat.pow_add]
  have e3 : (ex b).toNat + K = (ex b + 1074).toNat + (-ex b).toNat := by omega
  rw [e3]
theorem mm_lt {c : Int} (h0 : 0 < c) (h1 : c < 9223372036854775808) (he : ee c ≠ 2047) : mm (c - 1) < mm c := by
  have hE : ee c = c / 4503599627370496 := by unfold ee; omega
  have hE' : ee (c - 1) = (c - 1) / 4503599627370496 := by unfold ee; omega
  have hf : ff c = c % 4503599627370496 := rfl
  have hf' : ff (c - 1) = (c - 1) % 4503599627370496 := rfl
  by_cases c0 : ff c = 0
  · have e1 : ee (c - 1) = ee c - 1 := by omega
    have e2 : ff (c - 1) = 4503599627370495 := by omega
    have e3 : 1 ≤ ee c := by omega
    have m1 : mt c = 4503599627370496 := by unfold mt; rw [if_neg (by omega), c0]; rfl
    have x1 : (ex c + 1074).toNat = (ee c - 1).toNat := by unfold ex; rw [if_neg (by omega)]; omega
    unfold mm
    by_cases c1 : ee c = 1
    · have m2 : mt (c - 1) = 4503599627370495 := by unfold mt; rw [if_pos (by omega), e2]; rfl
      have x2 : (ex (c - 1) + 1074).toNat = 0 := by unfold ex; rw [if_pos (by omega)]; rfl
      rw [m1, m2, x1, x2, c1]
      decide
    · have m2 : mt (c - 1) = 9007199254740991 := by unfold mt; rw [if_neg (by omega), e2]; rfl
      obtain ⟨j, hj⟩ : ∃ j : Nat, ee c = j + 2 := ⟨(ee c - 2).toNat, by omega⟩
      have x2 : (ex (c - 1) + 1074).toNat = j := by unfold ex; rw [if_neg (by omega)]; omega
      have x3 : (ee c - 1).toNat = j + 1 := by omega
      rw [m1, m2, x1, x2, x3, Nat.pow_succ]
      have hp : 0 < 2 ^ j := Nat.pow_pos (by omega)
      generalize 2 ^ j = p at hp
      omega
  · have e1 : ee (c - 1) = ee c := by omega
    have e2 : ff (c - 1) = ff c - 1 := by omega
    have x : ex (c - 1) = ex c := by unfold ex; rw [e1]
    have m : mt (c - 1) < mt c := by
      have := ff_rng (a := c)
      unfold mt
      rw [e1, e2]
      split <;> omega
    unfold mm
    rw [x]
    exact Nat.mul_lt_mul_of_pos_right m (Nat.pow_pos (by omega))
theorem down_ok {c : Int} (h0 : 0 < c) (h1 : c < 9223372036854775808) (he : ee c ≠ 2047) : ee (c - 1) ≠ 2047 := by
  unfold ee at *
  omega
theorem fv_lt {c : Int} (h0 : 0 < c) (h1 : c < 9223372036854775808) (he : ee c ≠ 2047) : fv (c - 1) < fv c := by
  have hc : Wd c := by unfold Wd; omega
  have hc' : Wd (c - 1) := by unfold Wd; omega
  rw [fv_mm hc (decide_eq_false (by omega)) he 1074 rfl, fv_mm hc' (decide_eq_false (by omega)) (down_ok h0 h1 he) 1074 rfl]
  exact Rat.mul_lt_mul_of_pos_right (Rat.intCast_lt_intCast.2 (Int.ofNat_lt.2 (mm_lt h0 h1 he))) (ww_p _)
theorem fv_nn {c : Int} (h0 : 0 ≤ c) (h1 : c < 9223372036854775808) (he : ee c ≠ 2047) : 0 ≤ fv c := by
  have hc : Wd c := by unfold Wd; omega
  rw [fv_mm hc (decide_eq_false (by omega)) he 1074 rfl]
  exact Rat.mul_nonneg (Rat.intCast_nonneg.2 (Int.natCast_nonneg _)) (Rat.le_of_lt (ww_p _))

/-! ### PredSteps -/
theorem off_top {x : Nat} (hx : x < 18446744073709551616) : andNotI .u64 (x : Int) 9223372036854775808 = ((x % 9223372036854775808 : Nat) : Int) := by
  unfold andNotI
  show IntKind.u64.wrap (((BitVec.ofInt 64 (x : Int)) &&& ~~~ (BitVec.ofInt 64 9223372036854775808)).toNat : Int) = _
  have h1 : (~~~ (BitVec.ofInt 64 9223372036854775808)).toNat = 2 ^ 63 - 1 := by decide
  rw [BitVec.toNat_and, nat_of_bv x hx, h1, Nat.and_two_pow_sub_one_eq_mod]
  have : 2 ^ 63 = 9223372036854775808 := rfl
  rw [this]
  exact wrap_u64 (by omega) (by omega)
theorem pt_ff (x y : Int) : [AV.int .u64 x, AV.int .u64 y] = pt x y := Eq.trans rfl rfl
theorem PredSteps_law {a : Int} {t : Bool} (h : PredStepsF a = some t) : ∃ k : Nat, PredSteps_b0 a = some t := by
  obtain ⟨ha, rfl⟩ := gu_eq.1 h
  refine ⟨0, ?_⟩
  obtain ⟨x, rfl, hx⟩ := ha.nat
  rw [PredSteps_b0]
  simp only [off_top hx]
  obtain ⟨c, hc⟩ : ∃ c : Int, c = ((x % 9223372036854775808 : Nat) : Int) := ⟨_, rfl⟩
  have c0 : 0 ≤ c := by omega
  have c1 : c < 9223372036854775808 := by omega
  have wc : Wd c := by unfold Wd; omega
  rw [← hc, fixedF_ok, Option.bind_some, bits_ee wc]
  simp only [Bool.not_true, cond_f, cond_dec]
  by_cases he : ee c = 2047
  · rw [if_pos he]
  rw [if_neg he]
  by_cases hz : c = 0
  · rw [if_pos hz]
  rw [if_neg hz]
  have c2 : 0 < c := by omega
  have sb : subI .u64 c 1 = c - 1 := wrap_u64 (by omega) (by omega)
  have he' := down_ok c2 c1 he
  have wd : Wd (c - 1) := by unfold Wd; omega
  have w0 : Wd 0 := by unfold Wd; omega
  have f0 : ee 0 ≠ 2047 := by decide
  have po := isPt_pt w0 w0
  have pp := isPt_pt wc wc
  have pl := isPt_pt wd wc
  have pr := isPt_pt wc wd
  have px := isPt_pt wc w0
  have py := isPt_pt w0 wc
  have fo : fin (pt 0 0) = true := decide_eq_true ⟨f0, f0⟩
  have fp : fin (pt c c) = true := decide_eq_true ⟨he, he⟩
  have fl : fin (pt (c - 1) c) = true := decide_eq_true ⟨he', he⟩
  have fr : fin (pt c (c - 1)) = true := decide_eq_true ⟨he, he'⟩
  have fx : fin (pt c 0) = true := decide_eq_true ⟨he, f0⟩
  have fy : fin (pt 0 c) = true := decide_eq_true ⟨f0, he⟩
  have uv := fv_lt c2 c1 he
  have u0 := fv_nn (c := c - 1) (by omega) (by omega) he'
  have eu : c ≠ 1 → 0 < fv (c - 1) := fun h => by
    have := fv_lt (c := c - 1) (by omega) (by omega) he'
    have := fv_nn (c := c - 1 - 1) (by omega) (by omega) (down_ok (by omega) (by omega) he')
    grind
  have ez : c = 1 → fv (c - 1) = 0 := fun h => by rw [h]; exact fv_0
  generalize hu : fv (c - 1) = u at uv u0 eu ez
  generalize hv : fv c = v at uv
  have v0 : 0 < v := by grind
  have d0 : 0 < v - u := by grind
  have a1 : sgnQ (arP (pt 0 0) (pt c c) (pt (c - 1) c)) = 1 := by
    refine sgnQ_p ?_
    show 0 < arQ (fv 0) (fv 0) (fv c) (fv c) (fv (c - 1)) (fv c)
    rw [fv_0, hu, hv]
    have := Rat.mul_pos v0 d0
    unfold arQ
    grind
  have a2 : sgnQ (arP (pt 0 0) (pt c c) (pt c (c - 1))) = -1 := by
    refine sgnQ_n ?_
    show arQ (fv 0) (fv 0) (fv c) (fv c) (fv c) (fv (c - 1)) < 0
    rw [fv_0, hu, hv]
    have := Rat.mul_pos v0 d0
    unfold arQ
    grind
  have a3 : sgnQ (arP (pt 0 0) (pt c c) (pt c c)) = 0 := by
    have : arP (pt 0 0) (pt c c) (pt c c) = 0 := by unfold arP arQ; grind
    rw [this, sgnQ_0]
  have n1 : sgnQ (dsP (pt 0 0) (pt (c - 1) c) - dsP (pt 0 0) (pt c c)) = -1 := by
    refine sgnQ_n ?_
    show sqQ (fv 0 - fv (c - 1)) (fv 0 - fv c) - sqQ (fv 0 - fv c) (fv 0 - fv c) < 0
    rw [fv_0, hu, hv]
    have := Rat.mul_pos d0 (show 0 < v + u by grind)
    unfold sqQ
    grind
  have n2 : sgnQ (dsP (pt 0 0) (pt (c - 1) c) - dsP (pt 0 0) (pt c (c - 1))) = 0 := by
    have : dsP (pt 0 0) (pt (c - 1) c) - dsP (pt 0 0) (pt c (c - 1)) = 0 := by
      show sqQ (fv 0 - fv (c - 1)) (fv 0 - fv c) - sqQ (fv 0 - fv c) (fv 0 - fv (c - 1)) = 0
      unfold sqQ
      grind
    rw [this, sgnQ_0]
  have o1 : orP (pt (c - 1) c) (pt c c) = -1 := by
    show orQ (fv (c - 1)) (fv c) (fv c) (fv c) = -1
    rcases orQ_cases (fv (c - 1)) (fv c) (fv c) (fv c) with h | h | h <;> grind
  have o2 : orP (pt c (c - 1)) (pt c c) = -1 := by
    show orQ (fv c) (fv (c - 1)) (fv c) (fv c) = -1
    rcases orQ_cases (fv c) (fv (c - 1)) (fv c) (fv c) with h | h | h <;> grind
  have b1 : btP (pt 0 0) (pt c c) (pt (c - 1) c) = false := decide_eq_false (fun h => by rw [a1] at h; omega)
  have o3 : orP (pt 0 0) (pt c c) ≤ 0 := by
    show orQ (fv 0) (fv 0) (fv c) (fv c) ≤ 0
    rw [fv_0]
    rcases orQ_cases 0 0 (fv c) (fv c) with h | h | h <;> grind
  have o4 : orP (pt c c) (pt c c) = 0 := by
    show orQ (fv c) (fv c) (fv c) (fv c) = 0
    rcases orQ_cases (fv c) (fv c) (fv c) (fv c) with h | h | h <;> grind
  have b2 : btP (pt 0 0) (pt c c) (pt c c) = true := decide_eq_true ⟨a3, Or.inl ⟨o3, by omega⟩⟩
  have i1 : sgnQ (ciP (pt 0 0) (pt c 0) (pt 0 c) (pt c c)) = 0 := by
    have : ciP (pt 0 0) (pt c 0) (pt 0 c) (pt c c) = 0 := by
      show ciQ (fv 0 - fv c) (fv 0 - fv c) (fv c - fv c) (fv 0 - fv c) (fv 0 - fv c) (fv c - fv c) = 0
      rw [fv_0]
      unfold ciQ sqQ
      grind
    rw [this, sgnQ_0]
  have i2 : ciP (pt 0 0) (pt c 0) (pt 0 c) (pt (c - 1) c) = u * ((v * v) * (v - u)) := by
    show ciQ (fv 0 - fv (c - 1)) (fv 0 - fv c) (fv c - fv (c - 1)) (fv 0 - fv c) (fv 0 - fv (c - 1)) (fv c - fv c) = _
    rw [fv_0, hu, hv]
    unfold ciQ sqQ
    grind
  simp only [sb, pt_ff, pdOrientF_ok po pp pl, pdOrientF_ok po pp pr, pdNearerF_ok po pl po pp, pdNearerF_ok po pl po pr, pdOrdF_ok pl pp, pdOrdF_ok pr pp, pdBetweenF_ok po pp pl, pdBetweenF_ok po pp pp, pdInCircleF_ok po px py pp, pdInCircleF_ok po px py pl, fo, fp, fl, fr, fx, fy, a1, a2, n1, n2, o1, o2, b1, b2, i1, i2, Bool.and_true, if_true, Option.bind_some, num22_0]
  by_cases cc : c = 1
  · rw [ez cc, Rat.zero_mul, sgnQ_0]
    simp [cc]
  · rw [sgnQ_p (Rat.mul_pos (eu cc) (Rat.mul_pos (Rat.mul_pos v0 v0) d0))]
    simp [cc]

/-! ### PredOrders -/
theorem fin22F_4 {a b c d : List AV} (ha : isPt a) (hb : isPt b) (hc : isPt c) (hd : isPt d) : fin22F [.agg a, .agg b, .agg c, .agg d] = some (fin a && fin b && fin c && fin d) := by
  have hp : ∀ p ∈ [AV.agg a, .agg b, .agg c, .agg d], isPt p.flds := fun p hp => by
    simp only [List.mem_cons, List.not_mem_nil, or_false] at hp
    rcases hp with rfl | rfl | rfl | rfl <;> assumption
  rw [fin22F, gu_pos ⟨by show 4 ≤ 17592186044416; omega, hp⟩]
  show some (fin a && (fin b && (fin c && (fin d && true)))) = _
  cases fin a <;> cases fin b <;> cases fin c <;> cases fin d <;> rfl
theorem orP_swap (a b : List AV) : orP b a = -orP a b := by
  unfold orP
  rcases orQ_cases (X a) (Y a) (X b) (Y b) with h | h | h <;> rcases orQ_cases (X b) (Y b) (X a) (Y a) with h2 | h2 | h2 <;> grind
theorem orP_rng (a b : List AV) : -1 ≤ orP a b ∧ orP a b ≤ 1 := by
  unfold orP
  rcases orQ_cases (X a) (Y a) (X b) (Y b) with h | h | h <;> grind
theorem orP_le {a b c : List AV} (h1 : orP a b ≤ 0) (h2 : orP b c ≤ 0) : orP a c ≤ 0 := by
  unfold orP at *
  rcases orQ_cases (X a) (Y a) (X b) (Y b) with ⟨e, h⟩ | ⟨e, h⟩ | ⟨e, h⟩ <;> rcases orQ_cases (X b) (Y b) (X c) (Y c) with ⟨e', h'⟩ | ⟨e', h'⟩ | ⟨e', h'⟩ <;> rcases orQ_cases (X a) (Y a) (X c) (Y c) with ⟨e2, h2⟩ | ⟨e2, h2⟩ | ⟨e2, h2⟩ <;> grind
theorem orP_ge {a b c : List AV} (h1 : 0 ≤ orP a b) (h2 : 0 ≤ orP b c) : 0 ≤ orP a c := by
  have := orP_le (a := c) (b := b) (c := a) (by rw [orP_swap b c]; omega) (by rw [orP_swap a b]; omega)
  rw [orP_swap a c] at this
  omega
theorem btP_swap (a b p : List AV) : btP b a p = btP a b p := by
  unfold btP
  refine decide_eq_decide.2 ?_
  rw [ar_swap a b p, sgnQ_neg, orP_swap p b, orP_swap a p]
  omega
theorem btP_eq (a b c : List AV) : btP a b c = decide (sgnQ (arP a b c) = 0 ∧ (orP a c ≤ 0 ∧ orP b c ≥ 0 ∨ orP a c ≥ 0 ∧ orP b c ≤ 0)) := by
  unfold btP
  refine decide_eq_decide.2 ?_
  rw [orP_swap b c]
  omega
theorem dsP_swap (a b : List AV) : dsP b a = dsP a b := by unfold dsP sqQ; grind
theorem dsP_self (a : List AV) : dsP a a = 0 := by unfold dsP sqQ; grind
theorem dsP_zero (a b : List AV) : (sgnQ (0 - dsP a b) = 0 ↔ orP a b = 0) ∧ sgnQ (0 - dsP a b) ≤ 0 := by
  have h1 := sq_nn (X a - X b)
  have h2 := sq_nn (Y a - Y b)
  by_cases c : X a = X b ∧ Y a = Y b
  · have e1 : dsP a b = 0 := by unfold dsP sqQ; grind
    have e2 : orP a b = 0 := by
      unfold orP
      rcases orQ_cases (X a) (Y a) (X b) (Y b) with h | h | h <;> grind
    have e3 : (0 : Rat) - 0 = 0 := by decide +kernel
    rw [e1, e2, e3, sgnQ_0]
    omega
  · have hp : 0 < dsP a b := by
      unfold dsP sqQ
      by_cases hx : X a = X b
      · have := sq_p (show Y a - Y b ≠ 0 by grind)
        grind
      · have := sq_p (show X a - X b ≠ 0 by grind)
        grind
    have e2 : orP a b ≠ 0 := by
      unfold orP
      rcases orQ_cases (X a) (Y a) (X b) (Y b) with h | h | h <;> grind
    rw [sgnQ_n (show 0 - dsP a b < 0 by grind)]
    omega
theorem ds_turn (a b c d : List AV) : sgnQ (dsP d c - dsP a b) = -sgnQ (dsP a b - dsP c d) := by
  rw [← sgnQ_neg, dsP_swap c d]
  congr 1
  grind
theorem PredOrders_39 {q : List AV} (hA : isPt (pn q 0)) (hB : isPt (pn q 1)) (hC : isPt (pn q 2)) (hD : isPt (pn q 3)) (fA : fin (pn q 0) = true) (fB : fin (pn q 1) = true) (fC : fin (pn q 2) = true) (fD : fin (pn q 3) = true) (l35 : Int → Int → Int → Bool → List AV → Option Bool) (l39 : List AV → Option Bool) :
    PredOrders_b39 l35 l39 [AV.agg q] = some true := by
  have eA : [AV.int .u64 (AV.toInt (aget (AV.flds (aget [AV.agg q] 0)) 0)), AV.int .u64 (AV.toInt (aget (AV.flds (aget [AV.agg q] 0)) 1))] = pn q 0 := Eq.trans rfl rfl
  have eB : [AV.int .u64 (AV.toInt (aget (AV.flds (aget [AV.agg q] 0)) 2)), AV.int .u64 (AV.toInt (aget (AV.flds (aget [AV.agg q] 0)) 3))] = pn q 1 := Eq.trans rfl rfl
  have eC : [AV.int .u64 (AV.toInt (aget (AV.flds (aget [AV.agg q] 0)) 4)), AV.int .u64 (AV.toInt (aget (AV.flds (aget [AV.agg q] 0)) 5))] = pn q 2 := Eq.trans rfl rfl
  have eD : [AV.int .u64 (AV.toInt (aget (AV.flds (aget [AV.agg q] 0)) 6)), AV.int .u64 (AV.toInt (aget (AV.flds (aget [AV.agg q] 0)) 7))] = pn q 3 := Eq.trans rfl rfl
  generalize pn q 0 = A at *
  generalize pn q 1 = B at *
  generalize pn q 2 = C at *
  generalize pn q 3 = D at *
  rw [PredOrders_b39]
  have s1 : sgnQ (dsP A B - dsP B A) = 0 := by rw [dsP_swap A B, Rat.sub_self, sgnQ_0]
  have s2 := dsP_zero C D
  have s3 := sgnQ_rng (dsP A B - dsP C D)
  have n1 : subI .i64 0 (-sgnQ (dsP A B - dsP C D)) = sgnQ (dsP A B - dsP C D) := by rw [subI_i64 (by omega)]; omega
  simp only [eA, eB, eC, eD, pdNearerF_ok hA hB hC hD, pdNearerF_ok hD hC hA hB, pdNearerF_ok hA hB hB hA, pdNearerF_ok hA hA hC hD, pdOrdF_ok hC hD, fA, fB, fC, fD, Bool.and_true, if_true, Option.bind_some, num22_0, ds_turn A B C D, dsP_self, s1, n1]
  have e : decide (sgnQ (0 - dsP C D) = 0) = decide (orP C D = 0) := decide_eq_decide.2 s2.1
  simp only [e, decide_true, cond_t]
  rw [decide_eq_true s2.2]
theorem same_b {p q : Bool} (h : p = q) {α : Type} (x y : α) : (bif !decide (p = q) then x else y) = y := by
  rw [h, decide_eq_true rfl]
  rfl
theorem PredOrders_35 {t9 t11 t13 : Int} {t15 : Bool} (h : t15 = decide (t13 = 0 ∧ (t11 ≤ 0 ∧ t9 ≥ 0 ∨ t11 ≥ 0 ∧ t9 ≤ 0))) (l35 : Int → Int → Int → Bool → List AV → Option Bool) (l39 : List AV → Option Bool) (h0 : List AV) : PredOrders_b35 l35 l39 t9 t11 t13 t15 h0 = l39 h0 := by
  rw [PredOrders_b35, h]
  simp only [cond_dec]
  by_cases k1 : t13 = 0
  · rw [if_pos k1]
    by_cases k2 : t11 ≤ 0
    · rw [if_pos k2]
      by_cases k3 : t9 ≥ 0
      · rw [if_pos k3]
        exact same_b (decide_eq_true ⟨k1, Or.inl ⟨k2, k3⟩⟩) _ _
      · rw [if_neg k3]
        by_cases k4 : t11 ≥ 0
        · rw [if_pos k4]
          exact same_b (decide_eq_decide.2 (by omega)) _ _
        · rw [if_neg k4]
          exact same_b (decide_eq_false (by omega)) _ _
    · rw [if_neg k2]
      by_cases k4 : t11 ≥ 0
      · rw [if_pos k4]
        exact same_b (decide_eq_decide.2 (by omega)) _ _
      · rw [if_neg k4]
        exact same_b (decide_eq_false (by omega)) _ _
  · rw [if_neg k1]
    exact same_b (decide_eq_false (fun h => k1 h.1)) _ _
theorem PredOrders_law {q : List AV} {t : Bool} (h : PredOrdersF q = some t) : ∃ k : Nat, PredOrders_b0 (PredOrders_L35 k) (PredOrders_L39 k) q = some t := by
  obtain ⟨hw, rfl⟩ := gu_eq.1 h
  refine ⟨2, ?_⟩
  obtain ⟨A, hA⟩ : ∃ p, p = pn q 0 := ⟨_, rfl⟩
  obtain ⟨B, hB⟩ : ∃ p, p = pn q 1 := ⟨_, rfl⟩
  obtain ⟨C, hC⟩ : ∃ p, p = pn q 2 := ⟨_, rfl⟩
  obtain ⟨D, hD⟩ : ∃ p, p = pn q 3 := ⟨_, rfl⟩
  have pA : isPt A := hA ▸ isPt_pt (hw 0 (by omega)) (hw 1 (by omega))
  have pB : isPt B := hB ▸ isPt_pt (hw 2 (by omega)) (hw 3 (by omega))
  have pC : isPt C := hC ▸ isPt_pt (hw 4 (by omega)) (hw 5 (by omega))
  have pD : isPt D := hD ▸ isPt_pt (hw 6 (by omega)) (hw 7 (by omega))
  have eA : [AV.int .u64 (AV.toInt (aget q 0)), AV.int .u64 (AV.toInt (aget q 1))] = A := hA.symm
  have eB : [AV.int .u64 (AV.toInt (aget q 2)), AV.int .u64 (AV.toInt (aget q 3))] = B := hB.symm
  have eC : [AV.int .u64 (AV.toInt (aget q 4)), AV.int .u64 (AV.toInt (aget q 5))] = C := hC.symm
  have eD : [AV.int .u64 (AV.toInt (aget q 6)), AV.int .u64 (AV.toInt (aget q 7))] = D := hD.symm
  obtain ⟨r, hr⟩ : ∃ r, r = [AV.int .u64 (AV.toInt (aget q 0)), AV.int .u64 (AV.toInt (aget q 1)), AV.int .u64 (AV.toInt (aget q 2)), AV.int .u64 (AV.toInt (aget q 3)), AV.int .u64 (AV.toInt (aget q 4)), AV.int .u64 (AV.toInt (aget q 5)), AV.int .u64 (AV.toInt (aget q 6)), AV.int .u64 (AV.toInt (aget q 7))] := ⟨_, rfl⟩
  have rA : pn r 0 = A := by rw [hr, hA]; rfl
  have rB : pn r 1 = B := by rw [hr, hB]; rfl
  have rC : pn r 2 = C := by rw [hr, hC]; rfl
  have rD : pn r 3 = D := by rw [hr, hD]; rfl
  rw [PredOrders_b0]
  simp only [← hr]
  simp only [eA, eB, eC, eD, fixedF_ok, Option.bind_some, Bool.not_true, cond_f, pdOrdF_ok pA pB, pdOrdF_ok pB pA, pdOrdF_ok pB pC, pdOrdF_ok pA pC, pdOrientF_ok pA pB pC, pdBetweenF_ok pA pB pC, pdBetweenF_ok pB pA pC, pdNearerF_ok pA pB pC pD, fin22F_4 pA pB pC pD]
  by_cases hf : (fin A && fin B && fin C && fin D) = true
  · have h39 : PredOrders_L39 1 [AV.agg r] = some true := by
      rw [PredOrders_L39]
      simp only [Bool.and_eq_true] at hf
      exact PredOrders_39 (rA ▸ pA) (rB ▸ pB) (rC ▸ pC) (rD ▸ pD) (rA ▸ hf.1.1.1) (rB ▸ hf.1.1.2) (rC ▸ hf.1.2) (rD ▸ hf.2) _ _
    simp only [hf, Bool.not_true, cond_f]
    simp only [Bool.and_eq_true] at hf
    obtain ⟨⟨⟨fA, fB⟩, fC⟩, fD⟩ := hf
    simp only [fA, fB, fC, Bool.and_true, if_true, Option.bind_some, num22_0, orP_swap A B, btP_swap A B C]
    have ab := orP_rng A B
    have bc := orP_rng B C
    have ac := orP_rng A C
    have n1 : subI .i64 0 (-orP A B) = orP A B := by rw [subI_i64 (by omega)]; omega
    have t1 := @orP_le A B C
    have t2 := @orP_ge A B C
    have h35 : ∀ l39 : List AV → Option Bool, PredOrders_b35 (PredOrders_L35 1) l39 (orP B C) (orP A C) (sgnQ (arP A B C)) (btP A B C) [AV.agg r] = l39 [AV.agg r] := fun l39 => PredOrders_35 (btP_eq A B C) _ _ _
    have e35 : PredOrders_L35 2 (orP B C) (orP A C) (sgnQ (arP A B C)) (btP A B C) [AV.agg r] = some true := by
      rw [PredOrders_L35, h35, h39]
    have z : (!decide ((0 : Int) = 0)) = false := rfl
    simp only [n1, z, cond_f, decide_true, Bool.not_true, e35, cond_dec]
    rw [if_neg (by omega), if_neg (by omega)]
    by_cases k1 : orP A B ≤ 0
    · rw [if_pos k1]
      by_cases k2 : orP B C ≤ 0
      · rw [if_pos k2, if_neg (by have := t1 k1 k2; omega)]
        split
        · split
          · rw [if_neg (by have := t2 (by assumption) (by assumption); omega)]
          · rfl
        · rfl
      · rw [if_neg k2]
        split
        · split
          · rw [if_neg (by have := t2 (by assumption) (by assumption); omega)]
          · rfl
        · rfl
    · rw [if_neg k1]
      split
      · split
        · rw [if_neg (by have := t2 (by assumption) (by assumption); omega)]
        · rfl
      · rfl
  · simp only [Bool.not_eq_true] at hf
    simp only [hf, Bool.not_false, cond_t]
    rw [if_neg (by decide)]
    simp [num22_220]
theorem PredSteps_ok : CtrOk Go.Proofs.Try.prog 4 (mkF [.int .u64] [.bool] PredStepsF) := by
  refine mkF_ok (c := bodyOf Go.Proofs.Try.f4) (tab := S.tab) (cts := [(9, mkF [] [.bool] fixedF), (10, mkF [.st [.int .u64, .int .u64], .st [.int .u64, .int .u64], .st [.int .u64, .int .u64]] [.int .i64, .int .i64] pdOrientF), (16, mkF [.st [.int .u64, .int .u64], .st [.int .u64, .int .u64], .st [.int .u64, .int .u64], .st [.int .u64, .int .u64]] [.int .i64, .int .i64] pdNearerF), (17, mkF [.st [.int .u64, .int .u64], .st [.int .u64, .int .u64]] [.int .i64, .int .i64] pdOrdF), (18, mkF [.st [.int .u64, .int .u64], .st [.int .u64, .int .u64], .st [.int .u64, .int .u64]] [.bool, .int .i64] pdBetweenF), (11, mkF [.st [.int .u64, .int .u64], .st [.int .u64, .int .u64], .st [.int .u64, .int .u64], .st [.int .u64, .int .u64]] [.int .i64, .int .i64] pdInCircleF), (13, mkF [.int .i64] [.int .i64] num22F)]) (res := [2]) tab_ok hm ⟨fixed_ok, pdOrient_ok, pdNearer_ok, pdOrd_ok, pdBetween_ok, pdInCircle_ok, num22_ok, trivial⟩ Go.Proofs.Try.func4 (by kernel_rfl) (by kernel_rfl) (by kernel_rfl) (by kernel_rfl) (by kernel_rfl) ?_
  rintro a t h
  obtain ⟨k, hk⟩ := PredSteps_law h
  exact ⟨PredSteps_h, 3000, k, (PredSteps_ev k a).trans hk⟩

theorem PredOrders_ok : CtrOk Go.Proofs.Try.prog 5 (mkF [.st [.int .u64, .int .u64, .int .u64, .int .u64, .int .u64, .int .u64, .int .u64, .int .u64]] [.bool] PredOrdersF) := by
  refine mkF_ok (c := bodyOf Go.Proofs.Try.f5) (tab := S.tab) (cts := [(9, mkF [] [.bool] fixedF), (12, mkF [.sl (.st [.int .u64, .int .u64])] [.bool] fin22F), (16, mkF [.st [.int .u64, .int .u64], .st [.int .u64, .int .u64], .st [.int .u64, .int .u64], .st [.int .u64, .int .u64]] [.int .i64, .int .i64] pdNearerF), (13, mkF [.int .i64] [.int .i64] num22F), (17, mkF [.st [.int .u64, .int .u64], .st [.int .u64, .int .u64]] [.int .i64, .int .i64] pdOrdF), (10, mkF [.st [.int .u64, .int .u64], .st [.int .u64, .int .u64], .st [.int .u64, .int .u64]] [.int .i64, .int .i64] pdOrientF), (18, mkF [.st [.int .u64, .int .u64], .st [.int .u64, .int .u64], .st [.int .u64, .int .u64]] [.bool, .int .i64] pdBetweenF)]) (res := [2]) tab_ok hm ⟨fixed_ok, fin22_ok, pdNearer_ok, num22_ok, pdOrd_ok, pdOrient_ok, pdBetween_ok, trivial⟩ Go.Proofs.Try.func5 (by kernel_rfl) (by kernel_rfl) (by kernel_rfl) (by kernel_rfl) (by kernel_rfl) ?_
  rintro a t h
  obtain ⟨k, hk⟩ := PredOrders_law h
  exact ⟨PredOrders_h, 3000, k, (PredOrders_ev k a).trans hk⟩

end Go.RX.S
