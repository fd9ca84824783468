/- pred: what is computed. -/
import Derived.Test.YtciapojlnhiggaaGreatZTk
import Derived.Test.YtciapojlnhiggaaGreatZWt
set_option linter.unusedVariables false
set_option linter.unusedSimpArgs false
namespace Go.RX.S
open Go Go.RX Go.Proofs
theorem pdPlus_law {a t : List AV} (h : pdPlusF a = some t) : ∃ k : Nat, pdPlus_b0 a = some t := by
  obtain ⟨_, rfl⟩ := gu_eq.1 h
  exact ⟨0, rfl⟩
theorem pdMinus_law {a t : List AV} (h : pdMinusF a = some t) : ∃ k : Nat, pdMinus_b0 a = some t := by
  obtain ⟨_, rfl⟩ := gu_eq.1 h
  exact ⟨0, rfl⟩
theorem pdPlusF_ok (a : List AV) : pdPlusF a = some [.bool false, .list ratE a] := gu_pos trivial
theorem pdMinusF_ok (a : List AV) : pdMinusF a = some [.bool true, .list ratE a] := gu_pos trivial
def prodFrom (x : Rat) (fs : List AV) : Rat := fs.foldl (fun x f => x * fq f) x
def zFrom (s : Nat) (fs : List AV) : Nat := fs.foldl (fun n f => n + qsz (fq f)) s
theorem zFrom_le : ∀ (fs : List AV) (s : Nat), s ≤ zFrom s fs
  | [], s => Nat.le_refl _
  | f :: fs, s => Nat.le_trans (Nat.le_add_right _ _) (zFrom_le fs (s + qsz (fq f)))
theorem prod_qsz : ∀ (fs : List AV) (x : Rat) (s : Nat), qsz x ≤ s → qsz (prodFrom x fs) ≤ zFrom s fs
  | [], x, s, h => h
  | f :: fs, x, s, h => prod_qsz fs (x * fq f) (s + qsz (fq f)) (by have := qsz_mul x (fq f); omega)
def sumFrom (t : Rat) (ps : List AV) : Rat := ps.foldl (fun t p => if pM p then t - prodQ (pF p) else t + prodQ (pF p)) t
def sFrom (s : Nat) (ps : List AV) : Nat := ps.foldl (fun n p => n + prodZ (pF p) + 1) s
theorem sFrom_le : ∀ (ps : List AV) (s : Nat), s ≤ sFrom s ps
  | [], s => Nat.le_refl _
  | p :: ps, s => Nat.le_trans (by omega) (sFrom_le ps (s + prodZ (pF p) + 1))
theorem one_sz : qsz ((1 : Int) : Rat) ≤ 1 := by
  unfold qsz
  rw [Rat.num_intCast, Rat.den_intCast]
  have := (blen_le_iff 1 1).2 (by decide)
  simp only [show (1 : Int).natAbs = 1 from rfl]
  omega
theorem sum_qsz : ∀ (ps : List AV) (t : Rat) (s : Nat), qsz t ≤ s → qsz (sumFrom t ps) ≤ sFrom s ps
  | [], t, s, h => h
  | p :: ps, t, s, h => sum_qsz ps (if pM p then t - prodQ (pF p) else t + prodQ (pF p)) (s + prodZ (pF p) + 1) (by
    have hq : qsz (prodQ (pF p)) ≤ prodZ (pF p) := prod_qsz (pF p) ((1 : Int) : Rat) 1 one_sz
    have h1 := qsz_sub t (prodQ (pF p))
    have h2 := qsz_add t (prodQ (pF p))
    split <;> omega)
theorem drop_cons {l : List AV} {i : Nat} (h : i < l.length) : l.drop i = aget l i :: l.drop (i + 1) := by rw [aget_eq l i h]; exact List.drop_eq_getElem_cons h
theorem sum_in {t10 : List AV} {t11 t12 : Int} {fs h0 h1 h2 : List AV} (hl : fs.length ≤ 1000) (hf : ∀ f ∈ fs, f.flds = ratL (fq f)) : ∀ (n j k s : Nat) (x : Rat), j + n = fs.length → n ≤ k → qsz x ≤ s → zFrom s (fs.drop j) ≤ 200000 →
    pdSum_L14 k t10 t11 t12 fs (fs.length : Int) (j : Int) h0 h1 h2 [.agg (ratL x)] = pdSum_L14 (k - n) t10 t11 t12 fs (fs.length : Int) (fs.length : Int) h0 h1 h2 [.agg (ratL (prodFrom x (fs.drop j)))]
  | 0, j, k, s, x, hj, hk, hx, hz => by
    rw [List.drop_of_length_le (by omega), show j = fs.length from by omega]
    rfl
  | n + 1, j, 0, s, x, hj, hk, _, _ => by omega
  | n + 1, j, k + 1, s, x, hj, hk, hx, hz => by
    have hj' : j < fs.length := by omega
    rw [drop_cons hj'] at hz ⊢
    have hq := hf _ (aget_mem fs j hj')
    have hle := zFrom_le (fs.drop (j + 1)) (s + qsz (fq (aget fs j)))
    have hz2 : zFrom (s + qsz (fq (aget fs j))) (fs.drop (j + 1)) ≤ 200000 := hz
    have hm := qsz_mul x (fq (aget fs j))
    have ih := sum_in (t10 := t10) (t11 := t11) (t12 := t12) (h0 := h0) (h1 := h1) (h2 := h2) hl hf n (j + 1) k (s + qsz (fq (aget fs j))) (x * fq (aget fs j)) (by omega) (by omega) (by omega) hz2
    rw [pdSum_L14, pdSum_b14, cond_dec, if_pos (by omega), inR hj', cond_t, Int.toNat_natCast, hq]
    have hr : raMulF (ratL x, ratL (fq (aget fs j))) = some (ratL (x * fq (aget fs j)), 0) := raMulF_ok (by omega)
    have e1 : (AV.flds (aget [AV.agg (ratL x)] 0)) = ratL x := rfl
    simp only [e1, rl0, rl1, rl2, rlE, hr, Option.bind_some]
    rw [inc (by omega)]
    have e2 : List.set [AV.agg (ratL x)] 0 (.agg (ratL (x * fq (aget fs j)))) = [.agg (ratL (x * fq (aget fs j)))] := rfl
    rw [e2, ih, show k + 1 - (n + 1) = k - n from by omega]
    rfl
/-- Rounds. -/
def needS (ps : List AV) : Nat := ps.foldr (fun p n => (pF p).length + 2 + n) 1
theorem zero_sz : qsz ((0 : Int) : Rat) ≤ 1 := by
  unfold qsz
  rw [Rat.num_intCast, Rat.den_intCast]
  have := (blen_le_iff 1 1).2 (by decide)
  have h0 := (blen_le_iff 1 0).2 (by decide)
  simp only [show (0 : Int).natAbs = 0 from rfl]
  omega
theorem raIntF_1 : raIntF 1 = some (ratL ((1 : Int) : Rat)) := gu_pos (by unfold I64; omega)
theorem raIntF_0 : raIntF 0 = some (ratL ((0 : Int) : Rat)) := gu_pos (by unfold I64; omega)
theorem prodQ_from (fs : List AV) : prodFrom ((1 : Int) : Rat) fs = prodQ fs := rfl
theorem sum_out {ps : List AV} {z : AV} (hl : ps.length ≤ 1000) (hp : ∀ p ∈ ps, (pF p).length ≤ 1000 ∧ ∀ f ∈ pF p, f.flds = ratL (fq f)) : ∀ (n i k s : Nat) (t : Rat), i + n = ps.length → needS (ps.drop i) ≤ k → qsz t ≤ s → sFrom s (ps.drop i) ≤ 130000 →
    pdSum_L6 k ps (ps.length : Int) (i : Int) [z] [.agg (ratL t)] = some (ratL (sumFrom t (ps.drop i)))
  | n, i, 0, s, t, hi, hk, _, _ => by
    exfalso
    have : 1 ≤ needS (ps.drop i) := by
      unfold needS
      cases ps.drop i with
      | nil => exact Nat.le_refl _
      | cons p l =>
        show 1 ≤ (pF p).length + 2 + _
        omega
    omega
  | 0, i, k + 1, s, t, hi, hk, _, _ => by
    rw [pdSum_L6, pdSum_b6, cond_dec, if_neg (by omega), List.drop_of_length_le (by omega)]
    rfl
  | n + 1, i, k + 1, s, t, hi, hk, ht, hz => by
    have hi' : i < ps.length := by omega
    rw [drop_cons hi'] at hz hk ⊢
    obtain ⟨h1, h2⟩ := hp _ (aget_mem ps i hi')
    have hz2 : sFrom (s + prodZ (pF (aget ps i)) + 1) (ps.drop (i + 1)) ≤ 130000 := hz
    have hle := sFrom_le (ps.drop (i + 1)) (s + prodZ (pF (aget ps i)) + 1)
    have hk2 : (pF (aget ps i)).length + 2 + needS (ps.drop (i + 1)) ≤ k + 1 := hk
    rw [pdSum_L6, pdSum_b6, cond_dec, if_pos (by omega), inR hi', cond_t, Int.toNat_natCast, raIntF_1]
    simp only [Option.bind_some, rl0, rl1, rl2, rlE]
    have e3 : (AV.asList (aget (AV.flds (aget ps i)) 1)) = pF (aget ps i) := rfl
    have e4 : (AV.toBool (aget (AV.flds (aget ps i)) 0)) = pM (aget ps i) := rfl
    rw [e3, e4]
    have hin := sum_in (t10 := ps) (t11 := (ps.length : Int)) (t12 := (i : Int)) (fs := pF (aget ps i)) (h0 := [z]) (h1 := [.agg (ratL t)]) (h2 := [AV.agg [AV.bool (pM (aget ps i)), AV.list (ETy.st [ETy.bool, ETy.sl (ETy.int .u64), ETy.sl (ETy.int .u64)]) (pF (aget ps i))]]) h1 h2 (pF (aget ps i)).length 0 k 1 ((1 : Int) : Rat) (by omega) (by omega) one_sz (by
      have : zFrom 1 ((pF (aget ps i)).drop 0) = prodZ (pF (aget ps i)) := rfl
      omega)
    have hq : qsz (prodQ (pF (aget ps i))) ≤ prodZ (pF (aget ps i)) := prod_qsz (pF (aget ps i)) _ 1 one_sz
    rw [show ((0 : Nat) : Int) = 0 from rfl, List.drop_zero, prodQ_from] at hin
    rw [hin]
    obtain ⟨k', hk'⟩ : ∃ k', k - (pF (aget ps i)).length = k' + 1 := ⟨k - (pF (aget ps i)).length - 1, by omega⟩
    rw [hk', pdSum_L14, pdSum_b14, cond_dec, if_neg (by omega)]
    have e1 : ∀ y : Rat, (AV.flds (aget [AV.agg (ratL y)] 0)) = ratL y := fun _ => rfl
    have e5 : ∀ y w : Rat, List.set [AV.agg (ratL y)] 0 (.agg (ratL w)) = [.agg (ratL w)] := fun _ _ => rfl
    have e6 : (AV.toBool (aget (AV.flds (aget [AV.agg [AV.bool (pM (aget ps i)), AV.list (ETy.st [ETy.bool, ETy.sl (ETy.int .u64), ETy.sl (ETy.int .u64)]) (pF (aget ps i))]] 0)) 0)) = pM (aget ps i) := rfl
    rw [e6]
    have hs : sumFrom t (aget ps i :: ps.drop (i + 1)) = sumFrom (if pM (aget ps i) then t - prodQ (pF (aget ps i)) else t + prodQ (pF (aget ps i))) (ps.drop (i + 1)) := rfl
    rw [hs]
    cases hM : pM (aget ps i)
    · have hr : raAddF (ratL t, ratL (prodQ (pF (aget ps i)))) = some (ratL (t + prodQ (pF (aget ps i))), 0) := raAddF_ok (by omega)
      have hsz := qsz_add t (prodQ (pF (aget ps i)))
      rw [cond_f]
      simp only [e1, rl0, rl1, rl2, rlE, hr, Option.bind_some, e5]
      rw [inc (by omega)]
      exact sum_out hl hp n (i + 1) k' (s + prodZ (pF (aget ps i)) + 1) _ (by omega) (by omega) (by omega) hz2
    · have hr : raSubF (ratL t, ratL (prodQ (pF (aget ps i)))) = some (ratL (t - prodQ (pF (aget ps i))), 0) := raSubF_ok (by omega)
      have hsz := qsz_sub t (prodQ (pF (aget ps i)))
      rw [cond_t]
      simp only [e1, rl0, rl1, rl2, rlE, hr, Option.bind_some, e5]
      rw [inc (by omega)]
      exact sum_out hl hp n (i + 1) k' (s + prodZ (pF (aget ps i)) + 1) _ (by omega) (by omega) (by omega) hz2
theorem pdSum_law {a t : List AV} (h : pdSumF a = some t) : ∃ k : Nat, pdSum_b0 (pdSum_L6 k) (pdSum_L14 k) a = some t := by
  obtain ⟨⟨hl, hz, hp⟩, rfl⟩ := gu_eq.1 h
  refine ⟨needS a, ?_⟩
  rw [pdSum_b0, raIntF_0]
  simp only [Option.bind_some, rl0, rl1, rl2, rlE]
  exact sum_out hl hp a.length 0 (needS a) 1 ((0 : Int) : Rat) (by omega) (Nat.le_refl _) zero_sz hz
theorem pdSumF_ok {a : List AV} (h : okS a) : pdSumF a = some (ratL (sumQ a)) := gu_pos h
theorem pq0 (x y : Rat) : AV.toBool (aget (plL x y) 0) = decide (x.num < 0) := Eq.trans rfl rfl
theorem pq1 (x y : Rat) : AV.asInts (aget (plL x y) 1) = can x.num.natAbs := Eq.trans rfl rfl
theorem pq2 (x y : Rat) : AV.asInts (aget (plL x y) 2) = can x.den := Eq.trans rfl rfl
theorem pq3 (x y : Rat) : AV.toBool (aget (plL x y) 3) = decide (y.num < 0) := Eq.trans rfl rfl
theorem pq4 (x y : Rat) : AV.asInts (aget (plL x y) 4) = can y.num.natAbs := Eq.trans rfl rfl
theorem pq5 (x y : Rat) : AV.asInts (aget (plL x y) 5) = can y.den := Eq.trans rfl rfl
theorem plE (x y : Rat) : [AV.bool (decide (x.num < 0)), AV.ints .u64 (can x.num.natAbs), AV.ints .u64 (can x.den), AV.bool (decide (y.num < 0)), AV.ints .u64 (can y.num.natAbs), AV.ints .u64 (can y.den)] = plL x y := rfl
theorem plX_pl (x y : Rat) : plX (plL x y) = x := qOf_ratL x
theorem plY_pl (x y : Rat) : plY (plL x y) = y := qOf_ratL y
theorem isPl_pl (x y : Rat) : isPl (plL x y) := by rw [isPl, plX_pl, plY_pl]
theorem isPl_ex {a : List AV} (h : isPl a) : ∃ x y, a = plL x y := ⟨_, _, h⟩
theorem pdLess_law {a b t : List AV} (h : pdLessF (a, b) = some t) : ∃ k : Nat, pdLess_b0 a b = some t := by
  obtain ⟨⟨ha, hb, hx, hy⟩, rfl⟩ := gu_eq.1 h
  refine ⟨0, ?_⟩
  dsimp only at *
  obtain ⟨x, y, rfl⟩ := isPl_ex ha
  obtain ⟨u, v, rfl⟩ := isPl_ex hb
  rw [plX_pl, plX_pl] at hx
  rw [plY_pl, plY_pl] at hy
  rw [pdLess_b0, plX_pl, plX_pl, plY_pl, plY_pl]
  simp only [pq0, pq1, pq2, pq3, pq4, pq5, rlE, raSubF_ok hx, raSubF_ok hy, Option.bind_some]
  rfl
theorem pdLessF_ok {x y u v : Rat} (hx : qsz x + qsz u ≤ 262000) (hy : qsz y + qsz v ≤ 262000) : pdLessF (plL x y, plL u v) = some (plL (x - u) (y - v)) := by
  rw [pdLessF, gu_pos ⟨isPl_pl x y, isPl_pl u v, by show qsz (plX (plL x y)) + qsz (plX (plL u v)) ≤ _; rw [plX_pl, plX_pl]; exact hx, by show qsz (plY (plL x y)) + qsz (plY (plL u v)) ≤ _; rw [plY_pl, plY_pl]; exact hy⟩, plX_pl, plX_pl, plY_pl, plY_pl]
theorem fq_rat (x : Rat) : fq (.agg (ratL x)) = x := qOf_ratL x
def P2 (m : Bool) (x y : Rat) : AV := .agg [.bool m, .list ratE [.agg (ratL x), .agg (ratL y)]]
def P3 (m : Bool) (x y z : Rat) : AV := .agg [.bool m, .list ratE [.agg (ratL x), .agg (ratL y), .agg (ratL z)]]
theorem P2_Q (m : Bool) (x y : Rat) : prodQ (pF (P2 m x y)) = 1 * x * y := by
  show 1 * fq (.agg (ratL x)) * fq (.agg (ratL y)) = _
  rw [fq_rat, fq_rat]
theorem P3_Q (m : Bool) (x y z : Rat) : prodQ (pF (P3 m x y z)) = 1 * x * y * z := by
  show 1 * fq (.agg (ratL x)) * fq (.agg (ratL y)) * fq (.agg (ratL z)) = _
  rw [fq_rat, fq_rat, fq_rat]
theorem P2_Z (m : Bool) (x y : Rat) : prodZ (pF (P2 m x y)) = 1 + qsz x + qsz y := by
  show 1 + qsz (fq (.agg (ratL x))) + qsz (fq (.agg (ratL y))) = _
  rw [fq_rat, fq_rat]
theorem P3_Z (m : Bool) (x y z : Rat) : prodZ (pF (P3 m x y z)) = 1 + qsz x + qsz y + qsz z := by
  show 1 + qsz (fq (.agg (ratL x))) + qsz (fq (.agg (ratL y))) + qsz (fq (.agg (ratL z))) = _
  rw [fq_rat, fq_rat, fq_rat]
theorem P2_ok (m : Bool) (x y : Rat) : (pF (P2 m x y)).length ≤ 1000 ∧ ∀ f ∈ pF (P2 m x y), f.flds = ratL (fq f) := by
  refine ⟨by show 2 ≤ 1000; omega, fun f hf => ?_⟩
  have hf : f ∈ [AV.agg (ratL x), .agg (ratL y)] := hf
  simp only [List.mem_cons, List.not_mem_nil, or_false] at hf
  rcases hf with rfl | rfl <;> rw [fq_rat] <;> rfl
theorem P3_ok (m : Bool) (x y z : Rat) : (pF (P3 m x y z)).length ≤ 1000 ∧ ∀ f ∈ pF (P3 m x y z), f.flds = ratL (fq f) := by
  refine ⟨by show 3 ≤ 1000; omega, fun f hf => ?_⟩
  have hf : f ∈ [AV.agg (ratL x), .agg (ratL y), .agg (ratL z)] := hf
  simp only [List.mem_cons, List.not_mem_nil, or_false] at hf
  rcases hf with rfl | rfl | rfl <;> rw [fq_rat] <;> rfl
theorem sum2 {m n : Bool} {x y u v : Rat} (h : qsz x + qsz y + qsz u + qsz v ≤ 120000) : pdSumF [P2 m x y, P2 n u v] = some (ratL (sumQ [P2 m x y, P2 n u v])) := by
  refine pdSumF_ok ⟨by show 2 ≤ 1000; omega, ?_, fun p hp => ?_⟩
  · show 1 + prodZ (pF (P2 m x y)) + 1 + prodZ (pF (P2 n u v)) + 1 ≤ _
    rw [P2_Z, P2_Z]
    omega
  · simp only [List.mem_cons, List.not_mem_nil, or_false] at hp
    rcases hp with rfl | rfl <;> exact P2_ok _ _ _
theorem sq_sum (x y : Rat) : sumQ [P2 false x x, P2 false y y] = sqQ x y := by
  show (0 : Rat) + prodQ (pF (P2 false x x)) + prodQ (pF (P2 false y y)) = _
  rw [P2_Q, P2_Q]
  unfold sqQ
  grind
theorem pdSquare_law {a t : List AV} (h : pdSquareF a = some t) : ∃ k : Nat, pdSquare_b0 a = some t := by
  obtain ⟨⟨ha, hx, hy⟩, rfl⟩ := gu_eq.1 h
  refine ⟨0, ?_⟩
  obtain ⟨x, y, rfl⟩ := isPl_ex ha
  rw [plX_pl] at hx
  rw [plY_pl] at hy
  rw [pdSquare_b0, plX_pl, plY_pl]
  simp only [pq0, pq1, pq2, pq3, pq4, pq5, rlE, pdPlusF_ok, Option.bind_some]
  have hs := sum2 (m := false) (n := false) (x := x) (y := x) (u := y) (v := y) (by omega)
  rw [sq_sum] at hs
  change Option.bind (pdSumF [P2 false x x, P2 false y y]) _ = _
  rw [hs]
  rfl
theorem pdSquareF_ok {x y : Rat} (hx : qsz x ≤ 10000) (hy : qsz y ≤ 10000) : pdSquareF (plL x y) = some (ratL (sqQ x y)) := by
  rw [pdSquareF, gu_pos ⟨isPl_pl x y, by rw [plX_pl]; exact hx, by rw [plY_pl]; exact hy⟩, plX_pl, plY_pl]
theorem ar_sum (u0 u1 v0 v1 : Rat) : sumQ [P2 false u0 v1, P2 true u1 v0] = u0 * v1 - u1 * v0 := by
  show (0 : Rat) + prodQ (pF (P2 false u0 v1)) - prodQ (pF (P2 true u1 v0)) = _
  rw [P2_Q, P2_Q]
  grind
theorem pdArea_law {a b c t : List AV} (h : pdAreaF (a, b, c) = some t) : ∃ k : Nat, pdArea_b0 a b c = some t := by
  obtain ⟨⟨⟨ha, ax, ay⟩, ⟨hb, bx, bY⟩, ⟨hc, cx, cy⟩⟩, rfl⟩ := gu_eq.1 h
  refine ⟨0, ?_⟩
  dsimp only at *
  obtain ⟨x, y, rfl⟩ := isPl_ex ha
  obtain ⟨u, v, rfl⟩ := isPl_ex hb
  obtain ⟨r, s, rfl⟩ := isPl_ex hc
  simp only [plX_pl, plY_pl] at *
  have l1 := pdLessF_ok (x := u) (y := v) (u := x) (v := y) (by omega) (by omega)
  have l2 := pdLessF_ok (x := r) (y := s) (u := x) (v := y) (by omega) (by omega)
  have z1 := qsz_sub u x
  have z2 := qsz_sub v y
  have z3 := qsz_sub r x
  have z4 := qsz_sub s y
  have hs := sum2 (m := false) (n := true) (x := u - x) (y := s - y) (u := v - y) (v := r - x) (by omega)
  rw [ar_sum] at hs
  rw [pdArea_b0]
  simp only [pq0, pq1, pq2, pq3, pq4, pq5, plE, l1, l2, Option.bind_some]
  simp only [rlE, pdPlusF_ok, pdMinusF_ok, Option.bind_some]
  change Option.bind (pdSumF [P2 false (u - x) (s - y), P2 true (v - y) (r - x)]) _ = _
  rw [hs]
  rfl
theorem pdAreaF_ok {x y u v r s : Rat} (h1 : qsz x ≤ 2200) (h2 : qsz y ≤ 2200) (h3 : qsz u ≤ 2200) (h4 : qsz v ≤ 2200) (h5 : qsz r ≤ 2200) (h6 : qsz s ≤ 2200) : pdAreaF (plL x y, plL u v, plL r s) = some (ratL (arQ x y u v r s)) := by
  have sm : ∀ {x y : Rat}, qsz x ≤ 2200 → qsz y ≤ 2200 → small (plL x y) := fun {x y} hx hy => ⟨isPl_pl x y, by rw [plX_pl]; exact hx, by rw [plY_pl]; exact hy⟩
  rw [pdAreaF, gu_pos ⟨sm h1 h2, sm h3 h4, sm h5 h6⟩]
  simp only [plX_pl, plY_pl]
theorem pdCompare_law {a b : List AV} {t : Int} (h : pdCompareF (a, b) = some t) : ∃ k : Nat, pdCompare_b0 a b = some t := by
  obtain ⟨⟨ha, hb, hq⟩, rfl⟩ := gu_eq.1 h
  refine ⟨0, ?_⟩
  dsimp only at *
  obtain ⟨p, rfl⟩ : ∃ q, a = ratL q := ⟨_, ha⟩
  obtain ⟨q, rfl⟩ : ∃ q, b = ratL q := ⟨_, hb⟩
  rw [qOf_ratL, qOf_ratL] at hq ⊢
  rw [pdCompare_b0]
  simp only [rl0, rl1, rl2, rlE, raCmpF_ok hq, Option.bind_some]
theorem pdCompareF_ok {p q : Rat} (h : qsz p + qsz q ≤ 262000) : pdCompareF (ratL p, ratL q) = some (sgnQ (p - q)) := by rw [pdCompareF, gu_pos (okP2_mk h), qOf_ratL, qOf_ratL]
theorem pdOrder_law {a b : List AV} {t : Int} (h : pdOrderF (a, b) = some t) : ∃ k : Nat, pdOrder_b0 a b = some t := by
  obtain ⟨⟨⟨ha, ax, ay⟩, ⟨hb, bx, bY⟩⟩, rfl⟩ := gu_eq.1 h
  refine ⟨0, ?_⟩
  dsimp only at *
  obtain ⟨x, y, rfl⟩ := isPl_ex ha
  obtain ⟨u, v, rfl⟩ := isPl_ex hb
  simp only [plX_pl, plY_pl] at *
  have c1 := pdCompareF_ok (p := x) (q := u) (by omega)
  have c2 := pdCompareF_ok (p := y) (q := v) (by omega)
  rw [pdOrder_b0]
  simp only [pq0, pq1, pq2, pq3, pq4, pq5, rlE, c1, c2, Option.bind_some]
  unfold orQ
  by_cases c : sgnQ (x - u) = 0
  · rw [if_neg (by simp [c]), decide_eq_true c]
    rfl
  · rw [if_pos c, decide_eq_false c]
    rfl
theorem pdOrderF_ok {x y u v : Rat} (h1 : qsz x ≤ 2200) (h2 : qsz y ≤ 2200) (h3 : qsz u ≤ 2200) (h4 : qsz v ≤ 2200) : pdOrderF (plL x y, plL u v) = some (orQ x y u v) := by
  have sm : ∀ {x y : Rat}, qsz x ≤ 2200 → qsz y ≤ 2200 → small (plL x y) := fun {x y} hx hy => ⟨isPl_pl x y, by rw [plX_pl]; exact hx, by rw [plY_pl]; exact hy⟩
  rw [pdOrderF, gu_pos ⟨sm h1 h2, sm h3 h4⟩]
  simp only [plX_pl, plY_pl]
theorem nValF_ok {a : Int} (h : Wd a) : nValF a = some (if ee a = 2047 then (zeroR, 60) else (ratL (fv a), 0)) := gu_pos h
theorem places_loop {l : List AV} (hl : l.length ≤ 1000) (hp : ∀ p ∈ l, isPt p.flds) : ∀ (n i k : Nat) (h : List AV), i + n = l.length → n + 1 ≤ k → h.length = l.length → h.take i = (l.take i).map (fun p => plOf p.flds) →
    pdPlaces_L6 k l (l.length : Int) (i : Int) h = some (if (l.drop i).all (fun p => fin p.flds) then (l.map (fun p => plOf p.flds), true) else ([], false))
  | n, i, 0, h, _, hk, _, _ => by omega
  | 0, i, k + 1, h, hi, _, hh, ht => by
    rw [pdPlaces_L6, pdPlaces_b6, cond_dec, if_neg (by omega), List.drop_of_length_le (by omega)]
    rw [List.take_of_length_le (by omega), List.take_of_length_le (by omega)] at ht
    rw [ht]
    rfl
  | n + 1, i, k + 1, h, hi, hk, hh, ht => by
    have hi' : i < l.length := by omega
    have hpt := hp _ (aget_mem l i hi')
    rw [pdPlaces_L6, pdPlaces_b6, cond_dec, if_pos (by omega), inR hi', cond_t, Int.toNat_natCast, drop_cons hi', List.all_cons]
    have e1 : AV.toInt (aget (AV.flds (aget l i)) 0) = px (aget l i).flds := rfl
    have e2 : AV.toInt (aget (AV.flds (aget l i)) 1) = py (aget l i).flds := rfl
    rw [e1, e2, nValF_ok hpt.1, Option.bind_some, nValF_ok hpt.2, Option.bind_some]
    by_cases c1 : ee (px (aget l i).flds) = 2047
    · rw [if_pos c1]
      have hf : fin (aget l i).flds = false := decide_eq_false (fun h => h.1 c1)
      rw [hf]
      rfl
    · rw [if_neg c1]
      by_cases c2 : ee (py (aget l i).flds) = 2047
      · rw [if_pos c2]
        have hf : fin (aget l i).flds = false := decide_eq_false (fun h => h.2 c2)
        rw [hf]
        rfl
      · rw [if_neg c2]
        have hf : fin (aget l i).flds = true := decide_eq_true ⟨c1, c2⟩
        have z : (!decide ((0 : Int) = 0)) = false := rfl
        rw [hf, Bool.true_and]
        dsimp only
        rw [z, cond_f, cond_f, inR (by omega), cond_t, inc (by omega)]
        simp only [rl0, rl1, rl2, plE]
        refine places_loop hl hp n (i + 1) k _ (by omega) (by omega) (by rw [List.length_set]; exact hh) ?_
        have hlt : i < h.length := by omega
        rw [List.take_succ_eq_append_getElem (by rw [List.length_set]; exact hlt), List.take_succ_eq_append_getElem hi', List.map_append, ← ht]
        rw [List.take_set_of_le (Nat.le_refl i), List.getElem_set_self]
        rw [← aget_eq l i hi']
        rfl
theorem pdPlaces_law {a : List AV} {t : List AV × Bool} (h : pdPlacesF a = some t) : ∃ k : Nat, pdPlaces_b0 (pdPlaces_L6 k) a = some t := by
  obtain ⟨⟨hl, hp⟩, rfl⟩ := gu_eq.1 h
  refine ⟨a.length + 1, ?_⟩
  rw [pdPlaces_b0]
  simp only [cond_dec]
  rw [if_pos (by omega), cond_dec, if_pos (by omega), Int.toNat_natCast]
  exact places_loop hl hp a.length 0 (a.length + 1) _ (by omega) (by omega) (by simp) (by simp)
theorem fin_ff {p : List AV} (h : fin p = true) : ee (px p) ≠ 2047 ∧ ee (py p) ≠ 2047 := of_decide_eq_true h
theorem qsz_fv {a : Int} (h : Wd a) (h2 : ee a ≠ 2047) : qsz (fv a) ≤ 1075 := by
  have hr := ex_rng h h2
  have hb := blen_mt h
  have hd : (2 ^ (-(ex a)).toNat : Nat) ≠ 0 := Nat.pos_iff_ne_zero.1 (Nat.pow_pos (by omega))
  unfold qsz fv
  rw [num_mk hd, den_mk hd, sg_abs]
  have h1 := bl_mono (Nat.div_le_self (mt a * 2 ^ (ex a).toNat) (Nat.gcd (mt a * 2 ^ (ex a).toNat) (2 ^ (-(ex a)).toNat)))
  have h3 := bl_mono (Nat.div_le_self (2 ^ (-(ex a)).toNat) (Nat.gcd (mt a * 2 ^ (ex a).toNat) (2 ^ (-(ex a)).toNat)))
  have h4 := bl_mul (mt a) (2 ^ (ex a).toNat)
  have h5 := blen_p2 (ex a).toNat
  have h6 := blen_p2 (-(ex a)).toNat
  omega
def PP (p : List AV) : AV := .agg [.int .u64 (px p), .int .u64 (py p)]
theorem pl2_ok {a b : List AV} (ha : isPt a) (hb : isPt b) : pdPlacesF [PP a, PP b] = some (if fin a && fin b then ([plOf a, plOf b], true) else ([], false)) := by
  have hp : ∀ p ∈ [PP a, PP b], isPt p.flds := fun p hp => by
    simp only [List.mem_cons, List.not_mem_nil, or_false] at hp
    rcases hp with rfl | rfl <;> assumption
  rw [pdPlacesF, gu_pos ⟨by show 2 ≤ 1000; omega, hp⟩]
  have e : ([PP a, PP b].all fun p => fin p.flds) = (fin a && fin b) := by
    show (fin a && (fin b && true)) = _
    cases fin a <;> cases fin b <;> rfl
  rw [e]
  rfl
theorem pl3_ok {a b c : List AV} (ha : isPt a) (hb : isPt b) (hc : isPt c) : pdPlacesF [PP a, PP b, PP c] = some (if fin a && fin b && fin c then ([plOf a, plOf b, plOf c], true) else ([], false)) := by
  have hp : ∀ p ∈ [PP a, PP b, PP c], isPt p.flds := fun p hp => by
    simp only [List.mem_cons, List.not_mem_nil, or_false] at hp
    rcases hp with rfl | rfl | rfl <;> assumption
  rw [pdPlacesF, gu_pos ⟨by show 3 ≤ 1000; omega, hp⟩]
  have e : ([PP a, PP b, PP c].all fun p => fin p.flds) = (fin a && fin b && fin c) := by
    show (fin a && (fin b && (fin c && true))) = _
    cases fin a <;> cases fin b <;> cases fin c <;> rfl
  rw [e]
  rfl
theorem pl4_ok {a b c d : List AV} (ha : isPt a) (hb : isPt b) (hc : isPt c) (hd : isPt d) : pdPlacesF [PP a, PP b, PP c, PP d] = some (if fin a && fin b && fin c && fin d then ([plOf a, plOf b, plOf c, plOf d], true) else ([], false)) := by
  have hp : ∀ p ∈ [PP a, PP b, PP c, PP d], isPt p.flds := fun p hp => by
    simp only [List.mem_cons, List.not_mem_nil, or_false] at hp
    rcases hp with rfl | rfl | rfl | rfl <;> assumption
  rw [pdPlacesF, gu_pos ⟨by show 4 ≤ 1000; omega, hp⟩]
  have e : ([PP a, PP b, PP c, PP d].all fun p => fin p.flds) = (fin a && fin b && fin c && fin d) := by
    show (fin a && (fin b && (fin c && (fin d && true)))) = _
    cases fin a <;> cases fin b <;> cases fin c <;> cases fin d <;> rfl
  rw [e]
  rfl
theorem XY {p : List AV} (h : isPt p) (hf : fin p = true) : qsz (X p) ≤ 1075 ∧ qsz (Y p) ≤ 1075 := ⟨qsz_fv h.1 (fin_ff hf).1, qsz_fv h.2 (fin_ff hf).2⟩
theorem fl_pl (p : List AV) : AV.flds (plOf p) = plL (X p) (Y p) := rfl
theorem ag0 (x : AV) (l : List AV) : aget (x :: l) 0 = x := Eq.trans rfl rfl
theorem ag1 (x y : AV) (l : List AV) : aget (x :: y :: l) 1 = y := Eq.trans rfl rfl
theorem ag2 (x y z : AV) (l : List AV) : aget (x :: y :: z :: l) 2 = z := Eq.trans rfl rfl
theorem ag3 (x y z w : AV) (l : List AV) : aget (x :: y :: z :: w :: l) 3 = w := Eq.trans rfl rfl
theorem ir20 (x y : AV) : inRange 0 (List.length [x, y]) = true := rfl
theorem ir21 (x y : AV) : inRange 1 (List.length [x, y]) = true := rfl
theorem ir30 (x y z : AV) : inRange 0 (List.length [x, y, z]) = true := rfl
theorem ir31 (x y z : AV) : inRange 1 (List.length [x, y, z]) = true := rfl
theorem ir32 (x y z : AV) : inRange 2 (List.length [x, y, z]) = true := rfl
theorem ir40 (x y z w : AV) : inRange 0 (List.length [x, y, z, w]) = true := rfl
theorem ir41 (x y z w : AV) : inRange 1 (List.length [x, y, z, w]) = true := rfl
theorem ir42 (x y z w : AV) : inRange 2 (List.length [x, y, z, w]) = true := rfl
theorem ir43 (x y z w : AV) : inRange 3 (List.length [x, y, z, w]) = true := rfl
theorem qsz_ar {x y u v r s : Rat} (h1 : qsz x ≤ 1075) (h2 : qsz y ≤ 1075) (h3 : qsz u ≤ 1075) (h4 : qsz v ≤ 1075) (h5 : qsz r ≤ 1075) (h6 : qsz s ≤ 1075) : qsz (arQ x y u v r s) ≤ 20000 := by
  unfold arQ
  have a1 := qsz_sub u x
  have a2 := qsz_sub v y
  have a3 := qsz_sub r x
  have a4 := qsz_sub s y
  have b1 := qsz_mul (u - x) (s - y)
  have b2 := qsz_mul (v - y) (r - x)
  have c := qsz_sub ((u - x) * (s - y)) ((v - y) * (r - x))
  omega
theorem pdOrient_law {a b c : List AV} {t : Int × Int} (h : pdOrientF (a, b, c) = some t) : ∃ k : Nat, pdOrient_b0 a b c = some t := by
  obtain ⟨⟨ha, hb, hc⟩, rfl⟩ := gu_eq.1 h
  refine ⟨0, ?_⟩
  dsimp only at *
  rw [pdOrient_b0]
  change Option.bind (pdPlacesF [PP a, PP b, PP c]) _ = _
  rw [pl3_ok ha hb hc, Option.bind_some]
  cases hf : (fin a && fin b && fin c)
  · rfl
  · have hf' := hf
    simp only [Bool.and_eq_true] at hf'
    obtain ⟨a1, a2⟩ := XY ha hf'.1.1
    obtain ⟨b1, b2⟩ := XY hb hf'.1.2
    obtain ⟨c1, c2⟩ := XY hc hf'.2
    have har := pdAreaF_ok (x := X a) (y := Y a) (u := X b) (v := Y b) (r := X c) (s := Y c) (by omega) (by omega) (by omega) (by omega) (by omega) (by omega)
    have hq := qsz_ar a1 a2 b1 b2 c1 c2
    simp only [if_true, Bool.not_true, cond_f, ir30, ir31, ir32, cond_t, ag0, ag1, ag2, fl_pl, pq0, pq1, pq2, pq3, pq4, pq5, plE, har, Option.bind_some, rl0, rl1, rl2]
    simp only [rlE, raSignF_ok (show qsz (arQ (X a) (Y a) (X b) (Y b) (X c) (Y c)) ≤ 262144 by omega), Option.bind_some]
    rfl
theorem pdArea2_law {a b c : List AV} {t : List AV × Int} (h : pdArea2F (a, b, c) = some t) : ∃ k : Nat, pdArea2_b0 a b c = some t := by
  obtain ⟨⟨ha, hb, hc⟩, rfl⟩ := gu_eq.1 h
  refine ⟨0, ?_⟩
  dsimp only at *
  rw [pdArea2_b0]
  change Option.bind (pdPlacesF [PP a, PP b, PP c]) _ = _
  rw [pl3_ok ha hb hc, Option.bind_some]
  cases hf : (fin a && fin b && fin c)
  · rfl
  · have hf' := hf
    simp only [Bool.and_eq_true] at hf'
    obtain ⟨a1, a2⟩ := XY ha hf'.1.1
    obtain ⟨b1, b2⟩ := XY hb hf'.1.2
    obtain ⟨c1, c2⟩ := XY hc hf'.2
    have har := pdAreaF_ok (x := X a) (y := Y a) (u := X b) (v := Y b) (r := X c) (s := Y c) (by omega) (by omega) (by omega) (by omega) (by omega) (by omega)
    simp only [if_true, Bool.not_true, cond_f, ir30, ir31, ir32, cond_t, ag0, ag1, ag2, fl_pl, pq0, pq1, pq2, pq3, pq4, pq5, plE, har, Option.bind_some, rl0, rl1, rl2]
    rfl
theorem pdOrd_law {a b : List AV} {t : Int × Int} (h : pdOrdF (a, b) = some t) : ∃ k : Nat, pdOrd_b0 a b = some t := by
  obtain ⟨⟨ha, hb⟩, rfl⟩ := gu_eq.1 h
  refine ⟨0, ?_⟩
  dsimp only at *
  rw [pdOrd_b0]
  change Option.bind (pdPlacesF [PP a, PP b]) _ = _
  rw [pl2_ok ha hb, Option.bind_some]
  cases hf : (fin a && fin b)
  · rfl
  · have hf' := hf
    simp only [Bool.and_eq_true] at hf'
    obtain ⟨a1, a2⟩ := XY ha hf'.1
    obtain ⟨b1, b2⟩ := XY hb hf'.2
    have hor := pdOrderF_ok (x := X a) (y := Y a) (u := X b) (v := Y b) (by omega) (by omega) (by omega) (by omega)
    simp only [if_true, Bool.not_true, cond_f, ir20, ir21, cond_t, ag0, ag1, fl_pl, pq0, pq1, pq2, pq3, pq4, pq5, plE, hor, Option.bind_some]
    rfl
theorem qsz_sq {x y : Rat} {n : Nat} (h1 : qsz x ≤ n) (h2 : qsz y ≤ n) : qsz (sqQ x y) ≤ 4 * n + 1 := by
  unfold sqQ
  have a1 := qsz_mul x x
  have a2 := qsz_mul y y
  have a3 := qsz_add (x * x) (y * y)
  omega
theorem pdNearer_law {a b c d : List AV} {t : Int × Int} (h : pdNearerF (a, b, c, d) = some t) : ∃ k : Nat, pdNearer_b0 a b c d = some t := by
  obtain ⟨⟨ha, hb, hc, hd⟩, rfl⟩ := gu_eq.1 h
  refine ⟨0, ?_⟩
  dsimp only at *
  rw [pdNearer_b0]
  change Option.bind (pdPlacesF [PP a, PP b, PP c, PP d]) _ = _
  rw [pl4_ok ha hb hc hd, Option.bind_some]
  cases hf : (fin a && fin b && fin c && fin d)
  · rfl
  · have hf' := hf
    simp only [Bool.and_eq_true] at hf'
    obtain ⟨a1, a2⟩ := XY ha hf'.1.1.1
    obtain ⟨b1, b2⟩ := XY hb hf'.1.1.2
    obtain ⟨c1, c2⟩ := XY hc hf'.1.2
    obtain ⟨d1, d2⟩ := XY hd hf'.2
    have l1 := pdLessF_ok (x := X a) (y := Y a) (u := X b) (v := Y b) (by omega) (by omega)
    have l2 := pdLessF_ok (x := X c) (y := Y c) (u := X d) (v := Y d) (by omega) (by omega)
    have z1 := qsz_sub (X a) (X b)
    have z2 := qsz_sub (Y a) (Y b)
    have z3 := qsz_sub (X c) (X d)
    have z4 := qsz_sub (Y c) (Y d)
    have s1 := pdSquareF_ok (x := X a - X b) (y := Y a - Y b) (by omega) (by omega)
    have s2 := pdSquareF_ok (x := X c - X d) (y := Y c - Y d) (by omega) (by omega)
    have w1 := qsz_sq (x := X a - X b) (y := Y a - Y b) (n := 2200) (by omega) (by omega)
    have w2 := qsz_sq (x := X c - X d) (y := Y c - Y d) (n := 2200) (by omega) (by omega)
    have hc2 := pdCompareF_ok (p := sqQ (X a - X b) (Y a - Y b)) (q := sqQ (X c - X d) (Y c - Y d)) (by omega)
    simp only [if_true, Bool.not_true, cond_f, ir40, ir41, ir42, ir43, cond_t, ag0, ag1, ag2, ag3, fl_pl, pq0, pq1, pq2, pq3, pq4, pq5, plE, l1, l2, s1, s2, Option.bind_some, rl0, rl1, rl2]
    simp only [rlE, hc2, Option.bind_some]
    rfl
theorem pdBetween_law {a b c : List AV} {t : Bool × Int} (h : pdBetweenF (a, b, c) = some t) : ∃ k : Nat, pdBetween_b0 a b c = some t := by
  obtain ⟨⟨ha, hb, hc⟩, rfl⟩ := gu_eq.1 h
  refine ⟨0, ?_⟩
  dsimp only at *
  rw [pdBetween_b0]
  change Option.bind (pdPlacesF [PP a, PP b, PP c]) _ = _
  rw [pl3_ok ha hb hc, Option.bind_some]
  cases hf : (fin a && fin b && fin c)
  · rfl
  · have hf' := hf
    simp only [Bool.and_eq_true] at hf'
    obtain ⟨a1, a2⟩ := XY ha hf'.1.1
    obtain ⟨b1, b2⟩ := XY hb hf'.1.2
    obtain ⟨c1, c2⟩ := XY hc hf'.2
    have har := pdAreaF_ok (x := X a) (y := Y a) (u := X b) (v := Y b) (r := X c) (s := Y c) (by omega) (by omega) (by omega) (by omega) (by omega) (by omega)
    have hq := qsz_ar a1 a2 b1 b2 c1 c2
    have o1 := pdOrderF_ok (x := X a) (y := Y a) (u := X c) (v := Y c) (by omega) (by omega) (by omega) (by omega)
    have o2 := pdOrderF_ok (x := X c) (y := Y c) (u := X b) (v := Y b) (by omega) (by omega) (by omega) (by omega)
    simp only [if_true, Bool.not_true, cond_f, ir30, ir31, ir32, cond_t, ag0, ag1, ag2, fl_pl, pq0, pq1, pq2, pq3, pq4, pq5, plE, har, Option.bind_some, rl0, rl1, rl2, o1, o2]
    simp only [rlE, raSignF_ok (show qsz (arQ (X a) (Y a) (X b) (Y b) (X c) (Y c)) ≤ 262144 by omega), Option.bind_some]
    unfold btP arP orP
    generalize sgnQ (arQ (X a) (Y a) (X b) (Y b) (X c) (Y c)) = s
    generalize orQ (X a) (Y a) (X c) (Y c) = m
    generalize orQ (X c) (Y c) (X b) (Y b) = n
    by_cases h1 : s = 0
    · by_cases h2 : m ≤ 0 <;> by_cases h3 : n ≤ 0 <;> by_cases h4 : m ≥ 0 <;> by_cases h5 : n ≥ 0 <;> simp [h1, h2, h3, h4, h5]
    · simp [h1]
theorem ci_sum (p0 p1 q0 q1 r0 r1 : Rat) : sumQ [P3 false p0 q1 (sqQ r0 r1), P3 true p0 r1 (sqQ q0 q1), P3 true p1 q0 (sqQ r0 r1), P3 false p1 r0 (sqQ q0 q1), P3 false (sqQ p0 p1) q0 r1, P3 true (sqQ p0 p1) r0 q1] = ciQ p0 p1 q0 q1 r0 r1 := by
  show (0 : Rat) + prodQ (pF (P3 false p0 q1 (sqQ r0 r1))) - prodQ (pF (P3 true p0 r1 (sqQ q0 q1))) - prodQ (pF (P3 true p1 q0 (sqQ r0 r1))) + prodQ (pF (P3 false p1 r0 (sqQ q0 q1))) + prodQ (pF (P3 false (sqQ p0 p1) q0 r1)) - prodQ (pF (P3 true (sqQ p0 p1) r0 q1)) = _
  simp only [P3_Q]
  unfold ciQ
  generalize sqQ p0 p1 = a
  generalize sqQ q0 q1 = b
  generalize sqQ r0 r1 = c
  grind
theorem pdInCircle_law {a b c d : List AV} {t : Int × Int} (h : pdInCircleF (a, b, c, d) = some t) : ∃ k : Nat, pdInCircle_b0 a b c d = some t := by
  obtain ⟨⟨ha, hb, hc, hd⟩, rfl⟩ := gu_eq.1 h
  refine ⟨0, ?_⟩
  dsimp only at *
  rw [pdInCircle_b0]
  change Option.bind (pdPlacesF [PP a, PP b, PP c, PP d]) _ = _
  rw [pl4_ok ha hb hc hd, Option.bind_some]
  cases hf : (fin a && fin b && fin c && fin d)
  · rfl
  · have hf' := hf
    simp only [Bool.and_eq_true] at hf'
    obtain ⟨a1, a2⟩ := XY ha hf'.1.1.1
    obtain ⟨b1, b2⟩ := XY hb hf'.1.1.2
    obtain ⟨c1, c2⟩ := XY hc hf'.1.2
    obtain ⟨d1, d2⟩ := XY hd hf'.2
    have l1 := pdLessF_ok (x := X a) (y := Y a) (u := X d) (v := Y d) (by omega) (by omega)
    have l2 := pdLessF_ok (x := X b) (y := Y b) (u := X d) (v := Y d) (by omega) (by omega)
    have l3 := pdLessF_ok (x := X c) (y := Y c) (u := X d) (v := Y d) (by omega) (by omega)
    have z1 := qsz_sub (X a) (X d)
    have z2 := qsz_sub (Y a) (Y d)
    have z3 := qsz_sub (X b) (X d)
    have z4 := qsz_sub (Y b) (Y d)
    have z5 := qsz_sub (X c) (X d)
    have z6 := qsz_sub (Y c) (Y d)
    simp only [if_true, Bool.not_true, cond_f, ir40, ir41, ir42, ir43, cond_t, ag0, ag1, ag2, ag3, fl_pl, pq0, pq1, pq2, pq3, pq4, pq5, plE, l1, l2, l3, Option.bind_some]
    unfold ciP
    generalize X a - X d = p0 at *
    generalize Y a - Y d = p1 at *
    generalize X b - X d = q0 at *
    generalize Y b - Y d = q1 at *
    generalize X c - X d = r0 at *
    generalize Y c - Y d = r1 at *
    have s1 := pdSquareF_ok (x := p0) (y := p1) (by omega) (by omega)
    have s2 := pdSquareF_ok (x := q0) (y := q1) (by omega) (by omega)
    have s3 := pdSquareF_ok (x := r0) (y := r1) (by omega) (by omega)
    have w1 := qsz_sq (x := p0) (y := p1) (n := 2151) (by omega) (by omega)
    have w2 := qsz_sq (x := q0) (y := q1) (n := 2151) (by omega) (by omega)
    have w3 := qsz_sq (x := r0) (y := r1) (n := 2151) (by omega) (by omega)
    have hz : sumZ [P3 false p0 q1 (sqQ r0 r1), P3 true p0 r1 (sqQ q0 q1), P3 true p1 q0 (sqQ r0 r1), P3 false p1 r0 (sqQ q0 q1), P3 false (sqQ p0 p1) q0 r1, P3 true (sqQ p0 p1) r0 q1] ≤ 130000 := by
      show 1 + prodZ (pF (P3 false p0 q1 (sqQ r0 r1))) + 1 + prodZ (pF (P3 true p0 r1 (sqQ q0 q1))) + 1 + prodZ (pF (P3 true p1 q0 (sqQ r0 r1))) + 1 + prodZ (pF (P3 false p1 r0 (sqQ q0 q1))) + 1 + prodZ (pF (P3 false (sqQ p0 p1) q0 r1)) + 1 + prodZ (pF (P3 true (sqQ p0 p1) r0 q1)) + 1 ≤ _
      simp only [P3_Z]
      omega
    have hs := pdSumF_ok (a := [P3 false p0 q1 (sqQ r0 r1), P3 true p0 r1 (sqQ q0 q1), P3 true p1 q0 (sqQ r0 r1), P3 false p1 r0 (sqQ q0 q1), P3 false (sqQ p0 p1) q0 r1, P3 true (sqQ p0 p1) r0 q1]) ⟨by show 6 ≤ 1000; omega, hz, fun p hp => by
      simp only [List.mem_cons, List.not_mem_nil, or_false] at hp
      rcases hp with rfl | rfl | rfl | rfl | rfl | rfl <;> exact P3_ok _ _ _ _⟩
    rw [ci_sum] at hs
    have hq : qsz (ciQ p0 p1 q0 q1 r0 r1) ≤ 262144 := by
      have := sum_qsz [P3 false p0 q1 (sqQ r0 r1), P3 true p0 r1 (sqQ q0 q1), P3 true p1 q0 (sqQ r0 r1), P3 false p1 r0 (sqQ q0 q1), P3 false (sqQ p0 p1) q0 r1, P3 true (sqQ p0 p1) r0 q1] ((0 : Int) : Rat) 1 zero_sz
      have e : sumFrom ((0 : Int) : Rat) [P3 false p0 q1 (sqQ r0 r1), P3 true p0 r1 (sqQ q0 q1), P3 true p1 q0 (sqQ r0 r1), P3 false p1 r0 (sqQ q0 q1), P3 false (sqQ p0 p1) q0 r1, P3 true (sqQ p0 p1) r0 q1] = ciQ p0 p1 q0 q1 r0 r1 := ci_sum p0 p1 q0 q1 r0 r1
      rw [e] at this
      exact Nat.le_trans this (Nat.le_trans hz (by omega))
    simp only [s1, s2, s3, Option.bind_some, rl0, rl1, rl2]
    simp only [rlE, pdPlusF_ok, pdMinusF_ok, Option.bind_some]
    change Option.bind (pdSumF [P3 false p0 q1 (sqQ r0 r1), P3 true p0 r1 (sqQ q0 q1), P3 true p1 q0 (sqQ r0 r1), P3 false p1 r0 (sqQ q0 q1), P3 false (sqQ p0 p1) q0 r1, P3 true (sqQ p0 p1) r0 q1]) _ = _
    rw [hs, Option.bind_some]
    simp only [rl0, rl1, rl2, rlE, raSignF_ok hq, Option.bind_some]
theorem pdPlus_ok : CtrOk Go.Proofs.Tryz.prog 36 (mkF [.sl (.st [.bool, .sl (.int .u64), .sl (.int .u64)])] [.st [.bool, .sl (.st [.bool, .sl (.int .u64), .sl (.int .u64)])]] pdPlusF) := by
  refine mkR_ok (c := bodyOf Go.Proofs.Tryz.f36) (tab := S.tab) (cts := []) (res := [.cell 2 78]) tab_ok hm trivial Go.Proofs.Tryz.func36 (by kernel_rfl) (by kernel_rfl) (by kernel_rfl) (by kernel_rfl) (by kernel_rfl) ?_
  rintro a t h
  obtain ⟨k, hk⟩ := pdPlus_law h
  exact ⟨pdPlus_h, 3000, k, (pdPlus_ev k a).trans hk⟩
theorem pdMinus_ok : CtrOk Go.Proofs.Tryz.prog 37 (mkF [.sl (.st [.bool, .sl (.int .u64), .sl (.int .u64)])] [.st [.bool, .sl (.st [.bool, .sl (.int .u64), .sl (.int .u64)])]] pdMinusF) := by
  refine mkR_ok (c := bodyOf Go.Proofs.Tryz.f37) (tab := S.tab) (cts := []) (res := [.cell 2 78]) tab_ok hm trivial Go.Proofs.Tryz.func37 (by kernel_rfl) (by kernel_rfl) (by kernel_rfl) (by kernel_rfl) (by kernel_rfl) ?_
  rintro a t h
  obtain ⟨k, hk⟩ := pdMinus_law h
  exact ⟨pdMinus_h, 3000, k, (pdMinus_ev k a).trans hk⟩
theorem pdSum_ok : CtrOk Go.Proofs.Tryz.prog 35 (mkF [.sl (.st [.bool, .sl (.st [.bool, .sl (.int .u64), .sl (.int .u64)])])] [.st [.bool, .sl (.int .u64), .sl (.int .u64)]] pdSumF) := by
  refine mkR_ok (c := bodyOf Go.Proofs.Tryz.f35) (tab := S.tab) (cts := [(65, mkF [.int .i64] [.st [.bool, .sl (.int .u64), .sl (.int .u64)]] raIntF), (66, mkF [.st [.bool, .sl (.int .u64), .sl (.int .u64)], .st [.bool, .sl (.int .u64), .sl (.int .u64)]] [.st [.bool, .sl (.int .u64), .sl (.int .u64)], .int .i64] raMulF), (64, mkF [.st [.bool, .sl (.int .u64), .sl (.int .u64)], .st [.bool, .sl (.int .u64), .sl (.int .u64)]] [.st [.bool, .sl (.int .u64), .sl (.int .u64)], .int .i64] raSubF), (67, mkF [.st [.bool, .sl (.int .u64), .sl (.int .u64)], .st [.bool, .sl (.int .u64), .sl (.int .u64)]] [.st [.bool, .sl (.int .u64), .sl (.int .u64)], .int .i64] raAddF)]) (res := [.cell 2 34]) tab_ok hm ⟨raInt_ok, raMul_ok, raSub_ok, raAdd_ok, trivial⟩ Go.Proofs.Tryz.func35 (by kernel_rfl) (by kernel_rfl) (by kernel_rfl) (by kernel_rfl) (by kernel_rfl) ?_
  rintro a t h
  obtain ⟨k, hk⟩ := pdSum_law h
  exact ⟨pdSum_h, 3000, k, (pdSum_ev k a).trans hk⟩
theorem pdPlaces_ok : CtrOk Go.Proofs.Tryz.prog 24 (mkF [.sl (.st [.int .u64, .int .u64])] [.sl (.st [.bool, .sl (.int .u64), .sl (.int .u64), .bool, .sl (.int .u64), .sl (.int .u64)]), .bool] pdPlacesF) := by
  refine mkF_ok (c := bodyOf Go.Proofs.Tryz.f24) (tab := S.tab) (cts := [(55, mkF [.int .u64] [.st [.bool, .sl (.int .u64), .sl (.int .u64)], .int .i64] nValF)]) (res := [2, 3]) tab_ok hm ⟨nVal_ok, trivial⟩ Go.Proofs.Tryz.func24 (by kernel_rfl) (by kernel_rfl) (by kernel_rfl) (by kernel_rfl) (by kernel_rfl) ?_
  rintro a t h
  obtain ⟨k, hk⟩ := pdPlaces_law h
  exact ⟨pdPlaces_h, 3000, k, (pdPlaces_ev k a).trans hk⟩
theorem pdLess_ok : CtrOk Go.Proofs.Tryz.prog 33 (mkF [.st [.bool, .sl (.int .u64), .sl (.int .u64), .bool, .sl (.int .u64), .sl (.int .u64)], .st [.bool, .sl (.int .u64), .sl (.int .u64), .bool, .sl (.int .u64), .sl (.int .u64)]] [.st [.bool, .sl (.int .u64), .sl (.int .u64), .bool, .sl (.int .u64), .sl (.int .u64)]] pdLessF) := by
  refine mkR_ok (c := bodyOf Go.Proofs.Tryz.f33) (tab := S.tab) (cts := [(64, mkF [.st [.bool, .sl (.int .u64), .sl (.int .u64)], .st [.bool, .sl (.int .u64), .sl (.int .u64)]] [.st [.bool, .sl (.int .u64), .sl (.int .u64)], .int .i64] raSubF)]) (res := [.cell 4 64]) tab_ok hm ⟨raSub_ok, trivial⟩ Go.Proofs.Tryz.func33 (by kernel_rfl) (by kernel_rfl) (by kernel_rfl) (by kernel_rfl) (by kernel_rfl) ?_
  rintro ⟨a, b⟩ t h
  obtain ⟨k, hk⟩ := pdLess_law h
  exact ⟨pdLess_h, 3000, k, (pdLess_ev k a b).trans hk⟩
theorem pdSquare_ok : CtrOk Go.Proofs.Tryz.prog 34 (mkF [.st [.bool, .sl (.int .u64), .sl (.int .u64), .bool, .sl (.int .u64), .sl (.int .u64)]] [.st [.bool, .sl (.int .u64), .sl (.int .u64)]] pdSquareF) := by
  refine mkR_ok (c := bodyOf Go.Proofs.Tryz.f34) (tab := S.tab) (cts := [(36, mkF [.sl (.st [.bool, .sl (.int .u64), .sl (.int .u64)])] [.st [.bool, .sl (.st [.bool, .sl (.int .u64), .sl (.int .u64)])]] pdPlusF), (35, mkF [.sl (.st [.bool, .sl (.st [.bool, .sl (.int .u64), .sl (.int .u64)])])] [.st [.bool, .sl (.int .u64), .sl (.int .u64)]] pdSumF)]) (res := [.cell 2 34]) tab_ok hm ⟨pdPlus_ok, pdSum_ok, trivial⟩ Go.Proofs.Tryz.func34 (by kernel_rfl) (by kernel_rfl) (by kernel_rfl) (by kernel_rfl) (by kernel_rfl) ?_
  rintro a t h
  obtain ⟨k, hk⟩ := pdSquare_law h
  exact ⟨pdSquare_h, 3000, k, (pdSquare_ev k a).trans hk⟩
theorem pdArea_ok : CtrOk Go.Proofs.Tryz.prog 26 (mkF [.st [.bool, .sl (.int .u64), .sl (.int .u64), .bool, .sl (.int .u64), .sl (.int .u64)], .st [.bool, .sl (.int .u64), .sl (.int .u64), .bool, .sl (.int .u64), .sl (.int .u64)], .st [.bool, .sl (.int .u64), .sl (.int .u64), .bool, .sl (.int .u64), .sl (.int .u64)]] [.st [.bool, .sl (.int .u64), .sl (.int .u64)]] pdAreaF) := by
  refine mkR_ok (c := bodyOf Go.Proofs.Tryz.f26) (tab := S.tab) (cts := [(33, mkF [.st [.bool, .sl (.int .u64), .sl (.int .u64), .bool, .sl (.int .u64), .sl (.int .u64)], .st [.bool, .sl (.int .u64), .sl (.int .u64), .bool, .sl (.int .u64), .sl (.int .u64)]] [.st [.bool, .sl (.int .u64), .sl (.int .u64), .bool, .sl (.int .u64), .sl (.int .u64)]] pdLessF), (36, mkF [.sl (.st [.bool, .sl (.int .u64), .sl (.int .u64)])] [.st [.bool, .sl (.st [.bool, .sl (.int .u64), .sl (.int .u64)])]] pdPlusF), (37, mkF [.sl (.st [.bool, .sl (.int .u64), .sl (.int .u64)])] [.st [.bool, .sl (.st [.bool, .sl (.int .u64), .sl (.int .u64)])]] pdMinusF), (35, mkF [.sl (.st [.bool, .sl (.st [.bool, .sl (.int .u64), .sl (.int .u64)])])] [.st [.bool, .sl (.int .u64), .sl (.int .u64)]] pdSumF)]) (res := [.cell 6 34]) tab_ok hm ⟨pdLess_ok, pdPlus_ok, pdMinus_ok, pdSum_ok, trivial⟩ Go.Proofs.Tryz.func26 (by kernel_rfl) (by kernel_rfl) (by kernel_rfl) (by kernel_rfl) (by kernel_rfl) ?_
  rintro ⟨a, b, c⟩ t h
  obtain ⟨k, hk⟩ := pdArea_law h
  exact ⟨pdArea_h, 3000, k, (pdArea_ev k a b c).trans hk⟩
theorem pdCompare_ok : CtrOk Go.Proofs.Tryz.prog 46 (mkF [.st [.bool, .sl (.int .u64), .sl (.int .u64)], .st [.bool, .sl (.int .u64), .sl (.int .u64)]] [.int .i64] pdCompareF) := by
  refine mkF_ok (c := bodyOf Go.Proofs.Tryz.f46) (tab := S.tab) (cts := [(73, mkF [.st [.bool, .sl (.int .u64), .sl (.int .u64)], .st [.bool, .sl (.int .u64), .sl (.int .u64)]] [.int .i64, .int .i64] raCmpF)]) (res := [4]) tab_ok hm ⟨raCmp_ok, trivial⟩ Go.Proofs.Tryz.func46 (by kernel_rfl) (by kernel_rfl) (by kernel_rfl) (by kernel_rfl) (by kernel_rfl) ?_
  rintro ⟨a, b⟩ t h
  obtain ⟨k, hk⟩ := pdCompare_law h
  exact ⟨pdCompare_h, 3000, k, (pdCompare_ev k a b).trans hk⟩
theorem pdOrder_ok : CtrOk Go.Proofs.Tryz.prog 44 (mkF [.st [.bool, .sl (.int .u64), .sl (.int .u64), .bool, .sl (.int .u64), .sl (.int .u64)], .st [.bool, .sl (.int .u64), .sl (.int .u64), .bool, .sl (.int .u64), .sl (.int .u64)]] [.int .i64] pdOrderF) := by
  refine mkF_ok (c := bodyOf Go.Proofs.Tryz.f44) (tab := S.tab) (cts := [(46, mkF [.st [.bool, .sl (.int .u64), .sl (.int .u64)], .st [.bool, .sl (.int .u64), .sl (.int .u64)]] [.int .i64] pdCompareF)]) (res := [4]) tab_ok hm ⟨pdCompare_ok, trivial⟩ Go.Proofs.Tryz.func44 (by kernel_rfl) (by kernel_rfl) (by kernel_rfl) (by kernel_rfl) (by kernel_rfl) ?_
  rintro ⟨a, b⟩ t h
  obtain ⟨k, hk⟩ := pdOrder_law h
  exact ⟨pdOrder_h, 3000, k, (pdOrder_ev k a b).trans hk⟩
theorem pdOrient_ok : CtrOk Go.Proofs.Tryz.prog 5 (mkF [.st [.int .u64, .int .u64], .st [.int .u64, .int .u64], .st [.int .u64, .int .u64]] [.int .i64, .int .i64] pdOrientF) := by
  refine mkF_ok (c := bodyOf Go.Proofs.Tryz.f5) (tab := S.tab) (cts := [(24, mkF [.sl (.st [.int .u64, .int .u64])] [.sl (.st [.bool, .sl (.int .u64), .sl (.int .u64), .bool, .sl (.int .u64), .sl (.int .u64)]), .bool] pdPlacesF), (25, mkF [.st [.bool, .sl (.int .u64), .sl (.int .u64)]] [.int .i64] raSignF), (26, mkF [.st [.bool, .sl (.int .u64), .sl (.int .u64), .bool, .sl (.int .u64), .sl (.int .u64)], .st [.bool, .sl (.int .u64), .sl (.int .u64), .bool, .sl (.int .u64), .sl (.int .u64)], .st [.bool, .sl (.int .u64), .sl (.int .u64), .bool, .sl (.int .u64), .sl (.int .u64)]] [.st [.bool, .sl (.int .u64), .sl (.int .u64)]] pdAreaF)]) (res := [6, 7]) tab_ok hm ⟨pdPlaces_ok, raSign_ok, pdArea_ok, trivial⟩ Go.Proofs.Tryz.func5 (by kernel_rfl) (by kernel_rfl) (by kernel_rfl) (by kernel_rfl) (by kernel_rfl) ?_
  rintro ⟨a, b, c⟩ t h
  obtain ⟨k, hk⟩ := pdOrient_law h
  exact ⟨pdOrient_h, 3000, k, (pdOrient_ev k a b c).trans hk⟩
theorem pdInCircle_ok : CtrOk Go.Proofs.Tryz.prog 11 (mkF [.st [.int .u64, .int .u64], .st [.int .u64, .int .u64], .st [.int .u64, .int .u64], .st [.int .u64, .int .u64]] [.int .i64, .int .i64] pdInCircleF) := by
  refine mkF_ok (c := bodyOf Go.Proofs.Tryz.f11) (tab := S.tab) (cts := [(24, mkF [.sl (.st [.int .u64, .int .u64])] [.sl (.st [.bool, .sl (.int .u64), .sl (.int .u64), .bool, .sl (.int .u64), .sl (.int .u64)]), .bool] pdPlacesF), (33, mkF [.st [.bool, .sl (.int .u64), .sl (.int .u64), .bool, .sl (.int .u64), .sl (.int .u64)], .st [.bool, .sl (.int .u64), .sl (.int .u64), .bool, .sl (.int .u64), .sl (.int .u64)]] [.st [.bool, .sl (.int .u64), .sl (.int .u64), .bool, .sl (.int .u64), .sl (.int .u64)]] pdLessF), (34, mkF [.st [.bool, .sl (.int .u64), .sl (.int .u64), .bool, .sl (.int .u64), .sl (.int .u64)]] [.st [.bool, .sl (.int .u64), .sl (.int .u64)]] pdSquareF), (36, mkF [.sl (.st [.bool, .sl (.int .u64), .sl (.int .u64)])] [.st [.bool, .sl (.st [.bool, .sl (.int .u64), .sl (.int .u64)])]] pdPlusF), (37, mkF [.sl (.st [.bool, .sl (.int .u64), .sl (.int .u64)])] [.st [.bool, .sl (.st [.bool, .sl (.int .u64), .sl (.int .u64)])]] pdMinusF), (35, mkF [.sl (.st [.bool, .sl (.st [.bool, .sl (.int .u64), .sl (.int .u64)])])] [.st [.bool, .sl (.int .u64), .sl (.int .u64)]] pdSumF), (25, mkF [.st [.bool, .sl (.int .u64), .sl (.int .u64)]] [.int .i64] raSignF)]) (res := [8, 9]) tab_ok hm ⟨pdPlaces_ok, pdLess_ok, pdSquare_ok, pdPlus_ok, pdMinus_ok, pdSum_ok, raSign_ok, trivial⟩ Go.Proofs.Tryz.func11 (by kernel_rfl) (by kernel_rfl) (by kernel_rfl) (by kernel_rfl) (by kernel_rfl) ?_
  rintro ⟨a, b, c, d⟩ t h
  obtain ⟨k, hk⟩ := pdInCircle_law h
  exact ⟨pdInCircle_h, 3000, k, (pdInCircle_ev k a b c d).trans hk⟩
theorem pdBetween_ok : CtrOk Go.Proofs.Tryz.prog 13 (mkF [.st [.int .u64, .int .u64], .st [.int .u64, .int .u64], .st [.int .u64, .int .u64]] [.bool, .int .i64] pdBetweenF) := by
  refine mkF_ok (c := bodyOf Go.Proofs.Tryz.f13) (tab := S.tab) (cts := [(24, mkF [.sl (.st [.int .u64, .int .u64])] [.sl (.st [.bool, .sl (.int .u64), .sl (.int .u64), .bool, .sl (.int .u64), .sl (.int .u64)]), .bool] pdPlacesF), (25, mkF [.st [.bool, .sl (.int .u64), .sl (.int .u64)]] [.int .i64] raSignF), (26, mkF [.st [.bool, .sl (.int .u64), .sl (.int .u64), .bool, .sl (.int .u64), .sl (.int .u64)], .st [.bool, .sl (.int .u64), .sl (.int .u64), .bool, .sl (.int .u64), .sl (.int .u64)], .st [.bool, .sl (.int .u64), .sl (.int .u64), .bool, .sl (.int .u64), .sl (.int .u64)]] [.st [.bool, .sl (.int .u64), .sl (.int .u64)]] pdAreaF), (44, mkF [.st [.bool, .sl (.int .u64), .sl (.int .u64), .bool, .sl (.int .u64), .sl (.int .u64)], .st [.bool, .sl (.int .u64), .sl (.int .u64), .bool, .sl (.int .u64), .sl (.int .u64)]] [.int .i64] pdOrderF)]) (res := [6, 7]) tab_ok hm ⟨pdPlaces_ok, raSign_ok, pdArea_ok, pdOrder_ok, trivial⟩ Go.Proofs.Tryz.func13 (by kernel_rfl) (by kernel_rfl) (by kernel_rfl) (by kernel_rfl) (by kernel_rfl) ?_
  rintro ⟨a, b, c⟩ t h
  obtain ⟨k, hk⟩ := pdBetween_law h
  exact ⟨pdBetween_h, 3000, k, (pdBetween_ev k a b c).trans hk⟩
theorem pdNearer_ok : CtrOk Go.Proofs.Tryz.prog 15 (mkF [.st [.int .u64, .int .u64], .st [.int .u64, .int .u64], .st [.int .u64, .int .u64], .st [.int .u64, .int .u64]] [.int .i64, .int .i64] pdNearerF) := by
  refine mkF_ok (c := bodyOf Go.Proofs.Tryz.f15) (tab := S.tab) (cts := [(24, mkF [.sl (.st [.int .u64, .int .u64])] [.sl (.st [.bool, .sl (.int .u64), .sl (.int .u64), .bool, .sl (.int .u64), .sl (.int .u64)]), .bool] pdPlacesF), (34, mkF [.st [.bool, .sl (.int .u64), .sl (.int .u64), .bool, .sl (.int .u64), .sl (.int .u64)]] [.st [.bool, .sl (.int .u64), .sl (.int .u64)]] pdSquareF), (33, mkF [.st [.bool, .sl (.int .u64), .sl (.int .u64), .bool, .sl (.int .u64), .sl (.int .u64)], .st [.bool, .sl (.int .u64), .sl (.int .u64), .bool, .sl (.int .u64), .sl (.int .u64)]] [.st [.bool, .sl (.int .u64), .sl (.int .u64), .bool, .sl (.int .u64), .sl (.int .u64)]] pdLessF), (46, mkF [.st [.bool, .sl (.int .u64), .sl (.int .u64)], .st [.bool, .sl (.int .u64), .sl (.int .u64)]] [.int .i64] pdCompareF)]) (res := [8, 9]) tab_ok hm ⟨pdPlaces_ok, pdSquare_ok, pdLess_ok, pdCompare_ok, trivial⟩ Go.Proofs.Tryz.func15 (by kernel_rfl) (by kernel_rfl) (by kernel_rfl) (by kernel_rfl) (by kernel_rfl) ?_
  rintro ⟨a, b, c, d⟩ t h
  obtain ⟨k, hk⟩ := pdNearer_law h
  exact ⟨pdNearer_h, 3000, k, (pdNearer_ev k a b c d).trans hk⟩
theorem pdOrd_ok : CtrOk Go.Proofs.Tryz.prog 17 (mkF [.st [.int .u64, .int .u64], .st [.int .u64, .int .u64]] [.int .i64, .int .i64] pdOrdF) := by
  refine mkF_ok (c := bodyOf Go.Proofs.Tryz.f17) (tab := S.tab) (cts := [(24, mkF [.sl (.st [.int .u64, .int .u64])] [.sl (.st [.bool, .sl (.int .u64), .sl (.int .u64), .bool, .sl (.int .u64), .sl (.int .u64)]), .bool] pdPlacesF), (44, mkF [.st [.bool, .sl (.int .u64), .sl (.int .u64), .bool, .sl (.int .u64), .sl (.int .u64)], .st [.bool, .sl (.int .u64), .sl (.int .u64), .bool, .sl (.int .u64), .sl (.int .u64)]] [.int .i64] pdOrderF)]) (res := [4, 5]) tab_ok hm ⟨pdPlaces_ok, pdOrder_ok, trivial⟩ Go.Proofs.Tryz.func17 (by kernel_rfl) (by kernel_rfl) (by kernel_rfl) (by kernel_rfl) (by kernel_rfl) ?_
  rintro ⟨a, b⟩ t h
  obtain ⟨k, hk⟩ := pdOrd_law h
  exact ⟨pdOrd_h, 3000, k, (pdOrd_ev k a b).trans hk⟩
theorem pdArea2_ok : CtrOk Go.Proofs.Tryz.prog 7 (mkF [.st [.int .u64, .int .u64], .st [.int .u64, .int .u64], .st [.int .u64, .int .u64]] [.st [.bool, .sl (.int .u64), .sl (.int .u64)], .int .i64] pdArea2F) := by
  refine mkR_ok (c := bodyOf Go.Proofs.Tryz.f7) (tab := S.tab) (cts := [(24, mkF [.sl (.st [.int .u64, .int .u64])] [.sl (.st [.bool, .sl (.int .u64), .sl (.int .u64), .bool, .sl (.int .u64), .sl (.int .u64)]), .bool] pdPlacesF), (26, mkF [.st [.bool, .sl (.int .u64), .sl (.int .u64), .bool, .sl (.int .u64), .sl (.int .u64)], .st [.bool, .sl (.int .u64), .sl (.int .u64), .bool, .sl (.int .u64), .sl (.int .u64)], .st [.bool, .sl (.int .u64), .sl (.int .u64), .bool, .sl (.int .u64), .sl (.int .u64)]] [.st [.bool, .sl (.int .u64), .sl (.int .u64)]] pdAreaF)]) (res := [.cell 6 34, .tmp 7]) tab_ok hm ⟨pdPlaces_ok, pdArea_ok, trivial⟩ Go.Proofs.Tryz.func7 (by kernel_rfl) (by kernel_rfl) (by kernel_rfl) (by kernel_rfl) (by kernel_rfl) ?_
  rintro ⟨a, b, c⟩ t h
  obtain ⟨k, hk⟩ := pdArea2_law h
  exact ⟨pdArea2_h, 3000, k, (pdArea2_ev k a b c).trans hk⟩
end Go.RX.S
