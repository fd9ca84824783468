/- plumblaw09: made. -/
import Derived.Test.YtkiihodbgdnijaaGreatDoorJd
set_option linter.unusedVariables false
set_option linter.unusedSimpArgs false
namespace Go.RX.S
open Go Go.RX Go.Proofs

def pcL (p : Pc) : List AV := [.int .i64 p.kind, .int .i64 p.sign, .ints .i64 p.head, .ints .i64 p.tail, .bool p.point, .bool p.noexp, .int .i64 p.e, .bool p.plus, .bool p.big]
theorem big {n : Nat} {i : Decidable (n ≤ 9223372036854775807)} (h : n ≤ 1000) : @decide (n ≤ 9223372036854775807) i = true := decide_eq_true (by omega)
theorem bigR {n : Nat} {i : Decidable (n ≤ nat_lit 9223372036854775807)} (h : n ≤ 1000) : @decide (n ≤ nat_lit 9223372036854775807) i = true := decide_eq_true (Nat.le_trans h (by decide))
theorem signL_len (e : Int) (b : Bool) : (signL e b).length ≤ 1 := by
  unfold signL
  cases decide (e < 0) <;> cases b <;> decide
theorem num_len {n : Nat} (h : n < 100000) : (Lib.decDigits n).length ≤ 20 := by
  rw [Lib.decDigits_length]
  exact Lib.nDigits_le20 _ (by omega)
theorem x9numF_nat {n : Nat} (h : n < 100000) : x9numF (n : Int) = some (sb (Lib.decDigits n)) := by
  unfold x9numF
  rw [decide_eq_true (by omega : (0 : Int) ≤ (n : Int)), decide_eq_true (by omega : (n : Int) ≤ 9223372036854775807)]
  rfl
theorem x9bareF_sb {l : List UInt8} (h : l.length ≤ 1000) : x9bareF (sb l) = some (sb (bareL l)) := by
  have : lim (sb l) = true := decide_eq_true (by rw [sb_size]; omega)
  simp only [x9bareF, this, cond_true, bs_sb]
/-- The last part of made: the exponent. -/
def made47 (kind : Int) (sg : List UInt8) (neg : Bool) (h t0 body : List UInt8) (e : Int) (p : Pc) : List UInt8 × Nm :=
  let x := signL e p.plus ++ Lib.decDigits e.natAbs
  let num := bareL (h ++ t0)
  cond (decide (kind = 1)) (sg ++ [48, cond p.big 88 120] ++ body ++ [cond p.big 80 112] ++ x, ⟨2, neg, num, e - 4 * t0.length, []⟩)
    (cond p.noexp (sg ++ body, ⟨1, neg, num, -(t0.length : Int), []⟩)
      (sg ++ body ++ [cond p.big 69 101] ++ x, ⟨1, neg, num, e - t0.length, []⟩))
set_option maxHeartbeats 1000000 in
theorem made_47 (kind : Int) {sg h t0 body : List UInt8} (neg : Bool) {e : Int} (p : Pc) (k : Nat) (l1 : sg.length ≤ 1) (l2 : h.length ≤ 41) (l3 : t0.length ≤ 41) (l4 : body.length ≤ 90) (e1 : -100000 < e) (e2 : e < 100000) :
    x9made_L47 (k + 1) kind (sb sg) neg (sb h) (sb t0) (sb body) e (e.natAbs : Int) [AV.agg (pcL p)] [AV.agg noNm.to] = some (sb (made47 kind sg neg h t0 body e p).1, (made47 kind sg neg h t0 body e p).2.to) := by
  have s1 : x9signF (e, AV.toBool (aget (AV.flds (aget [AV.agg (pcL p)] 0)) 7)) = some (sb (signL e p.plus)) := rfl
  have q1 := signL_len e p.plus
  have q2 := num_len (n := e.natAbs) (by omega)
  rw [x9made_L47, x9made_b47, s1, Option.bind_some, x9numF_nat (by omega), Option.bind_some]
  rw [sb_cat h t0, x9bareF_sb (by rw [List.length_append]; omega), Option.bind_some]
  have c5 : AV.toBool (aget (AV.flds (aget [AV.agg (pcL p)] 0)) 5) = p.noexp := rfl
  have c8 : AV.toBool (aget (AV.flds (aget [AV.agg (pcL p)] 0)) 8) = p.big := rfl
  have m4 : mulI .i64 4 ((sb t0).size : Int) = 4 * (t0.length : Int) := mulI_i64 (by rw [sb_size]; omega)
  have m5 : subI .i64 e (4 * (t0.length : Int)) = e - 4 * (t0.length : Int) := subI_i64 (by omega)
  have m6 : subI .i64 e ((sb t0).size : Int) = e - (t0.length : Int) := subI_i64 (by rw [sb_size]; omega)
  have m7 : subI .i64 0 ((sb t0).size : Int) = -(t0.length : Int) := by
    rw [subI_i64 (by rw [sb_size]; omega), sb_size]
    omega
  have r1 : strOfI [(48 : Int), (88 : Int)] = sb [48, 88] := rfl
  have r2 : strOfI [(48 : Int), (120 : Int)] = sb [48, 120] := rfl
  have r3 : strOfI [(80 : Int)] = sb [80] := rfl
  have r4 : strOfI [(112 : Int)] = sb [112] := rfl
  have r5 : strOfI [(69 : Int)] = sb [69] := rfl
  have r6 : strOfI [(101 : Int)] = sb [101] := rfl
  rw [c5, c8, m4, m5, m6, m7, r1, r2, r3, r4, r5, r6]
  unfold made47
  cases hk : decide (kind = 1) <;> cases hb : p.big <;> cases hn : p.noexp
  all_goals
    simp only [cond_true, cond_false]
    repeat (rw [big]; rw [cond_true])
    · simp only [sb_cat]
      rfl
    all_goals
      simp only [sb_cat, sb_size, List.length_append, List.length_cons, List.length_nil]
      omega
theorem tmod_b (a : Int) : -100000 < a.tmod 100000 ∧ a.tmod 100000 < 100000 := by
  have h := @Int.tmod_eq_emod a 100000
  have h1 := Int.emod_nonneg a (by decide : (100000 : Int) ≠ 0)
  have h2 := Int.emod_lt_of_pos a (by decide : (0 : Int) < 100000)
  split at h
  · omega
  · rename_i hx
    have : a % 100000 ≠ 0 := fun e => hx (.inr (Int.dvd_of_emod_eq_zero e))
    omega
theorem made_39 (kind : Int) {sg h t0 body : List UInt8} (neg : Bool) (p : Pc) (k : Nat) (l1 : sg.length ≤ 1) (l2 : h.length ≤ 41) (l3 : t0.length ≤ 41) (l4 : body.length ≤ 90) :
    x9made_L39 (k + 2) kind (sb sg) neg (sb h) (sb t0) (sb body) [AV.agg (pcL p)] [AV.agg noNm.to] = some (sb (made47 kind sg neg h t0 body (p.e.tmod 100000) p).1, (made47 kind sg neg h t0 body (p.e.tmod 100000) p).2.to) := by
  have c6 : remI (AV.toInt (aget (AV.flds (aget [AV.agg (pcL p)] 0)) 6)) 100000 = p.e.tmod 100000 := rfl
  obtain ⟨b1, b2⟩ := tmod_b p.e
  rw [x9made_L39, x9made_b39, c6]
  by_cases hn : p.e.tmod 100000 < 0
  · rw [decide_eq_true hn, cond_true]
    have hs : subI .i64 0 (p.e.tmod 100000) = ((p.e.tmod 100000).natAbs : Int) := by
      rw [subI_i64 (by omega)]
      omega
    rw [hs]
    exact made_47 kind neg p k l1 l2 l3 l4 b1 b2
  · rw [decide_eq_false hn, cond_false]
    have hs : p.e.tmod 100000 = ((p.e.tmod 100000).natAbs : Int) := by omega
    have := made_47 kind neg p k l1 l2 l3 l4 b1 b2
    rw [← hs] at this
    exact this
theorem made_33 (kind : Int) {sg h t0 : List UInt8} (neg : Bool) (p : Pc) (k : Nat) (l1 : sg.length ≤ 1) (l2 : h.length ≤ 40) (l3 : t0.length ≤ 40) :
    x9made_L33 (k + 3) kind (sb sg) neg (sb h) (sb t0) [AV.agg (pcL p)] [AV.agg noNm.to] = some (sb (made47 kind sg neg h t0 (cond (!t0.isEmpty || p.point) (h ++ [46] ++ t0) h) (p.e.tmod 100000) p).1, (made47 kind sg neg h t0 (cond (!t0.isEmpty || p.point) (h ++ [46] ++ t0) h) (p.e.tmod 100000) p).2.to) := by
  have c4 : AV.toBool (aget (AV.flds (aget [AV.agg (pcL p)] 0)) 4) = p.point := rfl
  have r1 : strOfI [(46 : Int)] = sb [46] := rfl
  have hb : (h ++ [46] ++ t0).length ≤ 90 := by simp only [List.length_append, List.length_cons, List.length_nil]; omega
  rw [x9made_L33, x9made_b33, strEq_nil, bs_sb, c4, r1]
  have a1 := made_39 kind neg p k (h := h) (t0 := t0) (body := h ++ [46] ++ t0) l1 (by omega) (by omega) hb
  have a2 := made_39 kind neg p k (h := h) (t0 := t0) (body := h) l1 (by omega) (by omega) (by omega)
  cases t0.isEmpty <;> cases p.point
  all_goals
    simp only [cond_true, cond_false, Bool.not_true, Bool.not_false, Bool.or_true, Bool.or_false, Bool.or_self]
    repeat (rw [big]; rw [cond_true])
    · first | exact a2 | (rw [sb_cat, sb_cat]; exact a1)
    all_goals
      simp only [sb_cat, sb_size, List.length_append, List.length_cons, List.length_nil]
      omega
theorem made_27 {sg h t : List UInt8} (neg : Bool) (p : Pc) (k : Nat) (l1 : sg.length ≤ 1) (l2 : h.length ≤ 40) (l3 : t.length ≤ 40) :
    x9made_L27 (k + 1) (sb sg) neg (sb h) (sb t) [AV.agg (pcL p)] [AV.agg noNm.to] = some (sb (sg ++ h ++ [47] ++ t), Nm.to ⟨3, neg, bareL h, 0, bareL t⟩) := by
  have r1 : strOfI [(47 : Int)] = sb [47] := rfl
  rw [x9made_L27, x9made_b27, x9bareF_sb (by omega), x9bareF_sb (by omega), r1]
  simp only [Option.bind_some]
  repeat (rw [big]; rw [cond_true])
  · simp only [sb_cat]
    rfl
  all_goals
    simp only [sb_cat, sb_size, List.length_append, List.length_cons, List.length_nil]
    omega
theorem x9digitsF_ok {l : List Int} {base : Int} (b : Bool) (hb : base = 10 ∨ base = 16) (hr : l.all inI64 = true) : x9digitsF (l, base, b) = some (sb (digsL l base b)) := by
  have h1 : (decide (base = 10) || decide (base = 16)) = true := by rcases hb with rfl | rfl <;> rfl
  have h2 : (l.all fun n => decide (-9223372036854775808 ≤ n) && decide (n ≤ 9223372036854775807)) = true := hr
  simp only [x9digitsF, h1, h2, Bool.and_self, cond_true]
theorem digsL_len (l : List Int) (base : Int) (b : Bool) : (digsL l base b).length ≤ 40 := by
  unfold digsL
  rw [List.length_map, List.length_take]
  omega
/-- made, behind its first part. -/
def made15 (kind : Int) (sg : List UInt8) (neg : Bool) (base : Int) (p : Pc) : List UInt8 × Nm :=
  let h0 := digsL p.head base p.big
  let t0 := digsL p.tail base p.big
  cond (decide (kind = 2))
    (let h := cond h0.isEmpty [55] h0
     let t := cond t0.isEmpty [48, 50] t0
     (sg ++ h ++ [47] ++ t, ⟨3, neg, bareL h, 0, bareL t⟩))
    (let h := cond (h0.isEmpty && t0.isEmpty) [48] h0
     made47 kind sg neg h t0 (cond (!t0.isEmpty || p.point) (h ++ [46] ++ t0) h) (p.e.tmod 100000) p)
theorem made_15 (kind : Int) {sg : List UInt8} (neg : Bool) {base : Int} (p : Pc) (k : Nat) (hb : base = 10 ∨ base = 16) (h1 : p.head.all inI64 = true) (h2 : p.tail.all inI64 = true) (l1 : sg.length ≤ 1) :
    x9made_L15 (k + 4) kind (sb sg) neg base [AV.agg (pcL p)] [AV.agg noNm.to] = some (sb (made15 kind sg neg base p).1, (made15 kind sg neg base p).2.to) := by
  have c2 : AV.asInts (aget (AV.flds (aget [AV.agg (pcL p)] 0)) 2) = p.head := rfl
  have c3 : AV.asInts (aget (AV.flds (aget [AV.agg (pcL p)] 0)) 3) = p.tail := rfl
  have c8 : AV.toBool (aget (AV.flds (aget [AV.agg (pcL p)] 0)) 8) = p.big := rfl
  have r1 : strOfI [(55 : Int)] = sb [55] := rfl
  have r2 : strOfI [(48 : Int), (50 : Int)] = sb [48, 50] := rfl
  have r3 : strOfI [(48 : Int)] = sb [48] := rfl
  have q1 := digsL_len p.head base p.big
  have q2 := digsL_len p.tail base p.big
  rw [x9made_L15, x9made_b15, c2, c3, c8, x9digitsF_ok _ hb h1, x9digitsF_ok _ hb h2, Option.bind_some, Option.bind_some, strEq_nil, strEq_nil, bs_sb, bs_sb, r1, r2, r3]
  unfold made15
  dsimp only
  have n1 : ([55] : List UInt8).length ≤ 40 := by decide
  have n2 : ([48, 50] : List UInt8).length ≤ 40 := by decide
  have n3 : ([48] : List UInt8).length ≤ 40 := by decide
  cases decide (kind = 2)
  · simp only [cond_false]
    cases hh : (digsL p.head base p.big).isEmpty <;> cases ht : (digsL p.tail base p.big).isEmpty
    · have := made_33 kind neg p k (sg := sg) l1 q1 q2
      rw [ht] at this
      exact this
    · have := made_33 kind neg p k (sg := sg) l1 q1 q2
      rw [ht] at this
      exact this
    · have := made_33 kind neg p k (sg := sg) l1 q1 q2
      rw [ht] at this
      exact this
    · have := made_33 kind neg p k (sg := sg) l1 n3 q2
      rw [ht] at this
      exact this
  · simp only [cond_true]
    cases hh : (digsL p.head base p.big).isEmpty <;> cases ht : (digsL p.tail base p.big).isEmpty
    · exact made_27 neg p (k + 2) l1 q1 q2
    · exact made_27 neg p (k + 2) l1 q1 n2
    · exact made_27 neg p (k + 2) l1 n1 q2
    · exact made_27 neg p (k + 2) l1 n1 n2
theorem madeN_15 (p : Pc) : madeN p = made15 (p.kind % 3) (signL (p.sign % 3 - 1) p.plus) (signL (p.sign % 3 - 1) p.plus == [45]) (cond (decide (p.kind % 3 = 1)) 16 10) p := rfl
theorem x9made_law {a : List AV} {t : ByteArray × List AV} (h : x9madeF a = some t) : ∃ k : Nat, x9made_b0 (x9made_L15 k) (x9made_L27 k) (x9made_L33 k) (x9made_L39 k) (x9made_L47 k) a = some t := by
  obtain ⟨h1, h2⟩ := Option_cond h
  cases h2
  refine ⟨4, ?_⟩
  generalize hp : Pc.of a = p at h1 ⊢
  simp only [Pc.ok, Bool.and_eq_true] at h1
  obtain ⟨⟨⟨⟨k1, k2⟩, k3⟩, k4⟩, k5⟩ := h1
  have e0 : AV.toInt (aget a 0) = p.kind := by rw [← hp]; rfl
  have e1 : AV.toInt (aget a 1) = p.sign := by rw [← hp]; rfl
  have e7 : AV.toBool (aget a 7) = p.plus := by rw [← hp]; rfl
  have hL : [AV.agg [AV.int .i64 (AV.toInt (aget a 0)), AV.int .i64 (AV.toInt (aget a 1)), AV.ints .i64 (AV.asInts (aget a 2)), AV.ints .i64 (AV.asInts (aget a 3)), AV.bool (AV.toBool (aget a 4)), AV.bool (AV.toBool (aget a 5)), AV.int .i64 (AV.toInt (aget a 6)), AV.bool (AV.toBool (aget a 7)), AV.bool (AV.toBool (aget a 8))]] = [AV.agg (pcL p)] := by
    rw [← hp]
    rfl
  unfold x9made_b0
  rw [hL, noNm_to, e0, e1, e7]
  have i3 : ∀ n, inI64 n = true → into9F (n, 3) = some (n % 3) := fun n hn => by
    simp only [inI64, Bool.and_eq_true] at hn
    unfold into9F
    dsimp only
    rw [hn.1, hn.2]
    rfl
  rw [i3 _ k1, i3 _ k2, Option.bind_some, Option.bind_some]
  have m1 := Int.emod_nonneg p.sign (by decide : (3 : Int) ≠ 0)
  have m2 := Int.emod_lt_of_pos p.sign (by decide : (0 : Int) < 3)
  have hs : subI .i64 (p.sign % 3) 1 = p.sign % 3 - 1 := subI_i64 (by omega)
  have hg : x9signF (p.sign % 3 - 1, p.plus) = some (sb (signL (p.sign % 3 - 1) p.plus)) := rfl
  have r45 : strOfI [(45 : Int)] = sb [45] := rfl
  rw [hs, hg, Option.bind_some, r45, strEq_bs, bs_sb, bs_sb, madeN_15]
  have l1 := signL_len (p.sign % 3 - 1) p.plus
  cases hk : decide (p.kind % 3 = 1)
  · simp only [cond_false]
    exact made_15 _ _ p 0 (.inl rfl) k4 k5 l1
  · simp only [cond_true]
    exact made_15 _ _ p 0 (.inr rfl) k4 k5 l1
end Go.RX.S
