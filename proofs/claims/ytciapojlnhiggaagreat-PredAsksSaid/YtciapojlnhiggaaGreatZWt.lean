/- rat, near: what is computed. -/
import Derived.Test.YtciapojlnhiggaaGreatZTj
import Derived.Recover
set_option linter.unusedVariables false
set_option linter.unusedSimpArgs false
namespace Go.RX
theorem nop_of {P : Program} {g : FuncId} {fn : Func} (h1 : P.funcs[g]? = some fn) (h2 : (fn.name == "runtime.NumGoroutine") = false) (h3 : fn.body.isNone = false)
    (h : ∀ caps W, CallsD P g caps .returning W fun e u' W' => (∃ v, e = .returned v) ∧ u' = .returning ∧ W' = W) : ∀ caps, Nop P { target := .fn (.func g) caps, args := #[] } := by
  intro caps c cs W ds hm hd
  have h2' : ¬ fn.name = "runtime.NumGoroutine" := by simpa using h2
  have h3' : ¬ fn.body = none := by intro h; rw [h] at h3; simp at h3
  have hi : (invoke (.fn (.func g) caps) #[]).run P W = .ok (.enter g caps) W := by simp [invoke, callFunc, h1, h2', h3']
  have s1 := step_defer (P := P) (fr := c) (cs := cs) (w := W) (ds := ds) (by rw [hm]; simp) hd rfl hi
  obtain ⟨e, u', w', frX, ⟨⟨v, rfl⟩, rfl, rfl⟩, hsteps, hk, hgo⟩ := h caps W { c with defers := ds } cs hm
  have s2 := step_going_returned (P := P) (c := { { c with defers := ds } with mode := .returning }) (cs := cs) hk hgo
  have e : ({ { { c with defers := ds } with mode := .returning } with mode := settle .returning } : Frame) = { c with defers := ds } := by
    show ({ c with defers := ds, mode := .returning } : Frame) = { c with defers := ds }
    rw [← hm]
  rw [e] at s2
  exact Steps.head s1 (Steps.trans hsteps (.one s2))
theorem opsS_val {P : Program} {ops : Array Oper} {Q : Exit → Act → List Frame → World → Prop} {i : Nat} {rest : List Nat} {a : Act} {cs : List Frame} {w w' : World} {o : Oper} {v : Value} (ho : ops[i]? = some o) (hg : o.guard = none) (hr : (execOp a.eval o).run P w = .ok (.value v) w') (h : wpOpsS P ops Q rest (a.put o.dst v) cs w') : wpOpsS P ops Q (i :: rest) a cs w := by
  have hw : Region.wanted o (yielded ops a.tmps) = true := by unfold Region.wanted; rw [hg]
  simp only [wpOpsS, ho, hw, if_true, hr]
  exact h
theorem opsS_nil {P : Program} {ops : Array Oper} {Q : Exit → Act → List Frame → World → Prop} {a : Act} {cs : List Frame} {w : World} (h : Q .normal a cs w) : wpOpsS P ops Q [] a cs w := by simpa only [wpOpsS] using h
theorem opsS_rec {P : Program} {ops : Array Oper} {Q : Exit → Act → List Frame → World → Prop} {i : Nat} {rest : List Nat} {a : Act} {cs : List Frame} {w w' : World} {o : Oper} (ho : ops[i]? = some o) (hg : o.guard = none) (hr : (execOp a.eval o).run P w = .ok .recover w') (hn : recoverD cs = none) (h : wpOpsS P ops Q rest (a.put o.dst .nilIface) cs w') : wpOpsS P ops Q (i :: rest) a cs w := by
  have hw : Region.wanted o (yielded ops a.tmps) = true := by unfold Region.wanted; rw [hg]
  simp only [wpOpsS, ho, hw, if_true, hr, hn]
  exact h
namespace S
open Go Go.Proofs
theorem rec_run {a : Act} {w : World} {o : Oper} (h : o.op = .call { callee := .builtin .recover, args := #[], argTypes := #[] }) : (execOp a.eval o).run Tryz.prog w = .ok .recover w := by
  obtain ⟨dst, op, ty', pos, after, guard⟩ := o
  simp only at h
  subst h
  rfl
theorem nil_run {rv : Operand → Value} {w : World} {o : Oper} {d : Nat} (h : o.op = .binOp .neq 20 (.tmp d) (.const .nilIface) 20) (hx : rv (.tmp d) = .nilIface) (hc : rv (.const .nilIface) = .nilIface) : (execOp rv o).run Tryz.prog w = .ok (.value (.bool false)) w := by
  obtain ⟨dst, op, ty', pos, after, guard⟩ := o
  simp only at h
  subst h
  simp only [execOp, hx, hc]
  kernel_rfl
theorem nopD (caps : Array Value) (W : World) : CallsD Tryz.prog 106 caps .returning W fun e u' W' => (∃ v, e = .returned v) ∧ u' = .returning ∧ W' = W := by
  refine callsD_of_wpS Tryz.func106 (c := bodyOf Tryz.f106) (by kernel_rfl) fun c₀ cs hm => ?_
  have hsz : 17 ≤ (caps ++ Array.replicate (Tryz.f106.ntmps - caps.size) undef).size := by
    have : Tryz.f106.ntmps = 17 := by kernel_rfl
    rw [this]
    simp
    omega
  generalize ha : ({ tmps := caps ++ Array.replicate (Tryz.f106.ntmps - caps.size) undef, defers := [] } : Act) = a
  have hs : 17 ≤ a.tmps.size := by rw [← ha]; exact hsz
  have hd : a.defers = [] := by rw [← ha]
  have hrec : recoverD (c₀ :: cs) = none := by simp only [recoverD, hm]
  have ev : ∀ (b : Act) (d : Nat) (v : Value), d < b.tmps.size → (b.put (some d) v).eval (.tmp d) = v := fun b d v h => by
    show (b.put (some d) v).tmps.getD d undef = v
    rw [put_getD (fun d' e => by cases e; exact h), if_pos rfl]
  refine wpS_seq (wpS_region ?_)
  change wpOpsS Tryz.prog _ _ [0, 1] a (c₀ :: cs) W
  refine opsS_rec rfl rfl (rec_run rfl) hrec ?_
  change wpOpsS Tryz.prog _ _ [1] (a.put (some 5) .nilIface) (c₀ :: cs) W
  refine opsS_val (v := (a.put (some 5) .nilIface).eval (.tmp 5)) (w' := W) rfl rfl rfl ?_
  rw [ev a 5 .nilIface (by omega)]
  generalize ha1 : (a.put (some 5) .nilIface) = a1
  have hs1 : 17 ≤ a1.tmps.size := by rw [← ha1, put_size]; exact hs
  have hd1 : a1.defers = [] := by rw [← ha1, put_defers]; exact hd
  refine opsS_nil ?_
  change Code.wpS Tryz.prog _ _ (a1.put (some 2) .nilIface) (c₀ :: cs) W
  refine wpS_seq (wpS_region ?_)
  change wpOpsS Tryz.prog _ _ [0, 1] (a1.put (some 2) .nilIface) (c₀ :: cs) W
  refine opsS_val (v := (a1.put (some 2) .nilIface).eval (.tmp 2)) (w' := W) rfl rfl rfl ?_
  rw [ev a1 2 .nilIface (by omega)]
  generalize ha2 : (a1.put (some 2) .nilIface) = a2
  have hs2 : 17 ≤ a2.tmps.size := by rw [← ha2, put_size]; exact hs1
  have hd2 : a2.defers = [] := by rw [← ha2, put_defers]; exact hd1
  change wpOpsS Tryz.prog _ _ [1] (a2.put (some 6) .nilIface) (c₀ :: cs) W
  refine opsS_val (v := .bool false) (w' := W) rfl rfl (nil_run (d := 6) rfl (ev a2 6 .nilIface (by omega)) rfl) ?_
  generalize ha3 : (a2.put (some 6) .nilIface) = a3
  have hs3 : 17 ≤ a3.tmps.size := by rw [← ha3, put_size]; exact hs2
  have hd3 : a3.defers = [] := by rw [← ha3, put_defers]; exact hd2
  refine opsS_nil ?_
  change Code.wpS Tryz.prog _ _ (a3.put (some 7) (.bool false)) (c₀ :: cs) W
  refine wpS_cond (t := false) (ev a3 7 (.bool false) (by omega)) ?_
  refine wpS_of_wp (wp_skip ?_)
  refine ⟨by rw [put_defers]; exact hd3, .returning, ?_, .tuple #[], results_read (ts := []) (us := []) (by kernel_rfl) rfl, ⟨_, rfl⟩, rfl, rfl⟩
  rw [← hm]
theorem nop_ok : ∀ g, (fun g => Nat.beq g 106) g = true → ∀ caps, Nop Tryz.prog { target := .fn (.func g) caps, args := #[] } := by
  intro g hg
  obtain rfl := Nat.eq_of_beq_eq_true hg
  exact nop_of Tryz.func106 (by kernel_rfl) (by kernel_rfl) nopD
end S
end Go.RX
namespace Go.RX.S
open Go Go.RX Go.Proofs
theorem nat_of_bv (x : Nat) (h : x < 18446744073709551616) : (BitVec.ofInt 64 (x : Int)).toNat = x := by
  simp only [BitVec.toNat_ofInt]
  have : (((2 ^ 64 : Nat) : Int)) = 18446744073709551616 := rfl
  omega
theorem wrap_u64 {n : Int} (h0 : 0 ≤ n) (h1 : n < 18446744073709551616) : IntKind.u64.wrap n = n := IntWalk.u64_in n ⟨h0, by omega⟩
theorem andI_nat {x y : Nat} (hx : x < 18446744073709551616) (hy : y < 18446744073709551616) : andI .u64 (x : Int) (y : Int) = ((x &&& y : Nat) : Int) := by
  unfold andI
  show IntKind.u64.wrap (((BitVec.ofInt 64 (x : Int)) &&& (BitVec.ofInt 64 (y : Int))).toNat : Int) = _
  rw [BitVec.toNat_and, nat_of_bv x hx, nat_of_bv y hy]
  have : x &&& y ≤ x := Nat.and_le_left
  exact wrap_u64 (by omega) (by omega)
theorem orI_nat {x y : Nat} (hx : x < 18446744073709551616) (hy : y < 18446744073709551616) : orI .u64 (x : Int) (y : Int) = ((x ||| y : Nat) : Int) := by
  unfold orI
  show IntKind.u64.wrap (((BitVec.ofInt 64 (x : Int)) ||| (BitVec.ofInt 64 (y : Int))).toNat : Int) = _
  rw [BitVec.toNat_or, nat_of_bv x hx, nat_of_bv y hy]
  have : x ||| y < 2 ^ 64 := Nat.or_lt_two_pow (by omega) (by omega)
  exact wrap_u64 (by omega) (by omega)
theorem and_mask {x : Nat} (hx : x < 18446744073709551616) (k m : Nat) (hm : m = 2 ^ k - 1) (hk : m < 18446744073709551616) : andI .u64 (x : Int) (m : Int) = ((x % 2 ^ k : Nat) : Int) := by
  rw [andI_nat hx hk, hm, Nat.and_two_pow_sub_one_eq_mod]
theorem and_top {x : Nat} (hx : x < 18446744073709551616) : andI .u64 (x : Int) 9223372036854775808 = if 9223372036854775808 ≤ x then 9223372036854775808 else 0 := by
  have h := andI_nat hx (show 9223372036854775808 < 18446744073709551616 by decide)
  have e : x &&& 9223372036854775808 = if x.testBit 63 then 9223372036854775808 else 0 := by
    refine Nat.eq_of_testBit_eq fun i => ?_
    have h63 : (9223372036854775808 : Nat).testBit i = decide (63 = i) := Nat.testBit_two_pow (n := 63) (m := i)
    rw [Nat.testBit_and, h63]
    by_cases c : 63 = i
    · subst c
      cases hx : x.testBit 63
      · simp
      · rw [if_pos rfl]
        simp [show (9223372036854775808 : Nat).testBit 63 = true from by decide]
    · rw [decide_eq_false c, Bool.and_false]
      split
      · rw [h63, decide_eq_false c]
      · simp
  have t : x.testBit 63 = decide (9223372036854775808 ≤ x) := by
    rw [Nat.testBit_eq_decide_div_mod_eq]
    refine decide_eq_decide.2 ?_
    have : 2 ^ 63 = 9223372036854775808 := rfl
    rw [this]
    omega
  have h2 : andI .u64 (x : Int) 9223372036854775808 = ((x &&& 9223372036854775808 : Nat) : Int) := h
  rw [h2, e, t]
  by_cases c : 9223372036854775808 ≤ x <;> simp [c]
theorem shr52 {x : Nat} (hx : x < 18446744073709551616) : shrI .u64 (x : Int) 52 = ((x / 4503599627370496 : Nat) : Int) := by
  unfold shrI
  show Int.fdiv (x : Int) (2 ^ (min (52 : Int).toNat 64)) = _
  have : min (52 : Int).toNat 64 = 52 := rfl
  rw [this, Int.fdiv_eq_ediv_of_nonneg _ (by decide)]
  omega
theorem or_hid {f : Nat} (h : f < 4503599627370496) : orI .u64 4503599627370496 (f : Int) = ((4503599627370496 + f : Nat) : Int) := by
  have h2 := orI_nat (x := 4503599627370496) (y := f) (by decide) (by omega)
  have e : 2 ^ 52 * 1 + f = 2 ^ 52 * 1 ||| f := Nat.two_pow_add_eq_or_of_lt (by omega) 1
  have h3 : orI .u64 4503599627370496 (f : Int) = ((4503599627370496 ||| f : Nat) : Int) := h2
  rw [h3]
  have : (4503599627370496 : Nat) + f = 4503599627370496 ||| f := e
  rw [this]
theorem fld_law {a : Int} {t : Int × Int} (h : fldF a = some t) : ∃ k : Nat, fld_b0 a = some t := by
  obtain ⟨ha, rfl⟩ := gu_eq.1 h
  refine ⟨0, ?_⟩
  obtain ⟨x, rfl, hx⟩ := ha.nat
  have e1 : andI .u64 ((x / 4503599627370496 : Nat) : Int) 2047 = ((x / 4503599627370496 % 2 ^ 11 : Nat) : Int) := and_mask (by omega) 11 2047 rfl (by decide)
  have e2 : andI .u64 (x : Int) 4503599627370495 = ((x % 2 ^ 52 : Nat) : Int) := and_mask hx 52 4503599627370495 rfl (by decide)
  rw [fld_b0, shr52 hx, e1, e2]
  have e3 : cvI .i64 ((x / 4503599627370496 % 2 ^ 11 : Nat) : Int) = ((x / 4503599627370496 % 2 ^ 11 : Nat) : Int) := by
    unfold cvI
    exact IntWalk.i64_in _ ⟨by omega, by omega⟩
  rw [e3]
  have p1 : (2 : Nat) ^ 11 = 2048 := rfl
  have p2 : (2 : Nat) ^ 52 = 4503599627370496 := rfl
  rw [p1, p2]
  unfold ee ff
  refine congrArg some (Prod.ext ?_ ?_) <;> dsimp only <;> omega
theorem fldF_ok {a : Int} (h : Wd a) : fldF a = some (ee a, ff a) := gu_pos h
theorem ee_rng {a : Int} (h : Wd a) : 0 ≤ ee a ∧ ee a ≤ 2047 := by unfold ee; omega
theorem ff_rng {a : Int} : 0 ≤ ff a ∧ ff a < 4503599627370496 := by unfold ff; omega
theorem cls_law {a t : Int} (h : clsF a = some t) : ∃ k : Nat, cls_b0 a = some t := by
  obtain ⟨ha, rfl⟩ := gu_eq.1 h
  refine ⟨0, ?_⟩
  have h1 := ee_rng ha
  rw [cls_b0, fldF_ok ha, Option.bind_some]
  simp only [cond_dec]
  by_cases c1 : ee a = 0
  · by_cases c2 : ff a = 0
    · simp only [if_pos c1, if_pos c2]
    · simp only [if_pos c1, if_neg c2]
  · rw [if_neg c1, if_neg c1, if_neg c1]
    by_cases c3 : ee a = 2047
    · rw [if_neg (by omega), if_pos c3]
      split <;> rfl
    · rw [if_pos (by omega), if_neg c3]
theorem clsF_ok {a : Int} (h : Wd a) : clsF a = some (if ee a = 0 then (if ff a = 0 then 0 else 1) else if ee a = 2047 then (if ff a = 0 then 3 else 4) else 2) := gu_pos h
theorem spl_law {a : Int} {t : Bool × Int × Int × Int} (h : splF a = some t) : ∃ k : Nat, spl_b0 a = some t := by
  obtain ⟨ha, rfl⟩ := gu_eq.1 h
  refine ⟨0, ?_⟩
  have h1 := ee_rng ha
  have h2 := ff_rng (a := a)
  rw [spl_b0, fldF_ok ha, Option.bind_some, clsF_ok ha, Option.bind_some]
  have hn : (!decide (andI .u64 a (9223372036854775808 : Int) = (0 : Int))) = ng a := by
    obtain ⟨x, rfl, hx⟩ := ha.nat
    rw [and_top hx]
    unfold ng
    by_cases c : 9223372036854775808 ≤ x
    · have : (9223372036854775808 : Int) ≤ (x : Int) := by omega
      simp [c, this]
    · have : ¬ (9223372036854775808 : Int) ≤ (x : Int) := by omega
      simp [c, this]
  simp only [cond_dec, hn]
  by_cases c1 : ee a = 0
  · have c3 : ¬ ee a = 2047 := by omega
    simp only [if_pos c1, if_neg c3, mt, ex]
    have : ((ff a).toNat : Int) = ff a := by omega
    rw [this]
    by_cases c2 : ff a = 0
    · simp only [if_pos c2, if_true]
    · simp only [if_neg c2]
      rfl
  · simp only [if_neg c1, mt, ex]
    by_cases c3 : ee a = 2047
    · simp only [if_pos c3]
      by_cases c2 : ff a = 0
      · simp only [if_pos c2]; rfl
      · simp only [if_neg c2]; rfl
    · simp only [if_neg c3]
      have e1 : orI .u64 4503599627370496 (ff a) = 4503599627370496 + ff a := by
        obtain ⟨f, hf⟩ := Int.eq_ofNat_of_zero_le h2.1
        rw [hf] at h2 ⊢
        rw [or_hid (by omega)]
        omega
      have e2 : subI .i64 (ee a) 1075 = ee a - 1075 := subI_i64 (by omega)
      have e3 : ((4503599627370496 + ff a).toNat : Int) = 4503599627370496 + ff a := by omega
      rw [e1, e2, e3]
      rfl
theorem splF_ok {a : Int} (h : Wd a) : splF a = some (if ee a = 2047 then (false, 0, 0, 60) else (ng a, (mt a : Int), ex a, 0)) := gu_pos h
theorem pw_Lim {v n : Nat} (h : v < 2 ^ n) (hn : n ≤ 262144) : v < Lim := by
  rw [Lim_pow]
  refine Nat.lt_of_lt_of_le h (Nat.pow_le_pow_right (by omega) ?_)
  rw [lw_eq]
  omega
theorem bl_Lim {v : Nat} (h : blen v ≤ 262144) : v < Lim := pw_Lim ((blen_le_iff _ v).1 (Nat.le_refl _)) h
theorem qn_Lim {q : Rat} (h : qsz q ≤ 262144) : q.num.natAbs < Lim := bl_Lim (by unfold qsz at h; omega)
theorem qd_Lim {q : Rat} (h : qsz q ≤ 262144) : q.den < Lim := bl_Lim (by unfold qsz at h; omega)
theorem mul_Lim {a b : Nat} (h : blen a + blen b ≤ 262144) : a * b < Lim := bl_Lim (Nat.le_trans (bl_mul a b) h)
theorem len_can0 {v : Nat} : (((can v).length : Nat) : Int) = 0 ↔ v = 0 := by
  rw [← can_nil]
  constructor
  · intro h
    exact List.eq_nil_of_length_eq_zero (by omega)
  · intro h
    rw [h]
    rfl
theorem len_can_pos {v : Nat} : (((can v).length : Nat) : Int) > 0 ↔ v ≠ 0 := by
  have := len_can0 (v := v)
  omega
theorem len_can_Lim {v : Nat} (h : v < Lim) : (can v).length ≤ 4096 := by
  have := can_len (n := lw) h
  rwa [lw_eq] at this
theorem rl0 (q : Rat) : AV.toBool (aget (ratL q) 0) = decide (q.num < 0) := Eq.trans rfl rfl
theorem rl1 (q : Rat) : AV.asInts (aget (ratL q) 1) = can q.num.natAbs := Eq.trans rfl rfl
theorem rl2 (q : Rat) : AV.asInts (aget (ratL q) 2) = can q.den := Eq.trans rfl rfl
theorem rlE (q : Rat) : [AV.bool (decide (q.num < 0)), AV.ints .u64 (can q.num.natAbs), AV.ints .u64 (can q.den)] = ratL q := rfl
theorem can_last (v : Nat) (h : v ≠ 0) : (can v).getD ((can v).length - 1) 0 ≠ 0 := by
  induction v using Nat.strongRecOn with
  | _ v ih =>
    rw [can, dif_neg h]
    by_cases c : v / 18446744073709551616 = 0
    · rw [c, can_zero]
      simp
      omega
    · have h2 := ih (v / 18446744073709551616) (by omega) c
      generalize can (v / 18446744073709551616) = l at *
      cases l with
      | nil => simp at h2
      | cons x xs => simpa using h2
theorem raNormal_law {a : List Int} {t : Bool} (h : raNormalF a = some t) : ∃ k : Nat, raNormal_b0 a = some t := by
  obtain ⟨⟨ha, hv⟩, rfl⟩ := gu_eq.1 h
  refine ⟨0, ?_⟩
  have hl : a.length ≤ 4096 := by rw [ha]; exact len_can_Lim hv
  rw [raNormal_b0, cond_dec, if_pos (by omega), cond_dec]
  by_cases c : a.length = 0
  · rw [if_pos (by omega)]
  · have e1 : subI .i64 (a.length : Int) 1 = ((a.length - 1 : Nat) : Int) := by rw [subI_i64 (by omega)]; omega
    rw [if_neg (by omega), e1, inR (by omega), cond_t, rdI_nat]
    have hne : a ≠ [] := fun h => c (by rw [h]; rfl)
    have := can_last (val a) (fun h0 => hne (by rw [ha, h0, can_zero]))
    rw [← ha] at this
    rw [decide_eq_false this]
    rfl
theorem raNormalF_can {v : Nat} (h : v < Lim) : raNormalF (can v) = some true := gu_pos ⟨by rw [val_can], by rw [val_can]; exact h⟩
theorem raCheck_law {a : List AV} {t : Int} (h : raCheckF a = some t) : ∃ k : Nat, raCheck_b0 a = some t := by
  obtain ⟨⟨ha, hq⟩, rfl⟩ := gu_eq.1 h
  refine ⟨0, ?_⟩
  obtain ⟨q, rfl⟩ : ∃ q, a = ratL q := ⟨_, ha⟩
  rw [qOf_ratL] at hq
  have hn := qn_Lim hq
  have hd := qd_Lim hq
  have hg : GcdF (can q.num.natAbs, can q.den) = some (can 1) := by
    rw [GcdF_V (V_can hn) (V_can hd), val_can, val_can]
    have : Nat.gcd q.num.natAbs q.den = 1 := q.reduced
    rw [this]
  have hw : nWordF (can 1) = some (1, true) := by
    rw [nWordF, gu_pos (U_can (bl_Lim (Nat.le_trans ((blen_le_iff 1 1).2 (by decide)) (by decide)))), val_can, if_pos (by omega)]
    rfl
  rw [raCheck_b0]
  simp only [rl0, rl1, rl2, raNormalF_can hn, raNormalF_can hd, Option.bind_some, Bool.not_true, cond_f, hg, hw, cond_dec]
  have hd0 : ¬ ((((can q.den).length : Nat) : Int) = 0) := by rw [len_can0]; exact q.den_nz
  by_cases c : q.num < 0
  · have hn0 : ¬ ((((can q.num.natAbs).length : Nat) : Int) = 0) := by rw [len_can0]; omega
    simp only [if_pos c, if_neg hd0, if_neg hn0]
    rfl
  · simp only [if_neg c, if_neg hd0]
    rfl
theorem raCheckF_ok {q : Rat} (h : qsz q ≤ 262144) : raCheckF (ratL q) = some 0 := gu_pos ⟨isR_ratL q, by rw [qOf_ratL]; exact h⟩
theorem nFromF_can {n : Nat} (h : n < 18446744073709551616) : nFromF (n : Int) = some (can n) := by rw [nFromF, gu_pos (Wd.of h), Int.toNat_natCast]
theorem raInt_law {a : Int} {t : List AV} (h : raIntF a = some t) : ∃ k : Nat, raInt_b0 a = some t := by
  obtain ⟨ha, rfl⟩ := gu_eq.1 h
  refine ⟨0, ?_⟩
  unfold I64 at ha
  have e1 : nFromF 1 = some (can 1) := nFromF_can (n := 1) (by omega)
  have en : ((a : Rat)).num = a := Rat.num_intCast a
  have ed : ((a : Rat)).den = 1 := Rat.den_intCast a
  rw [raInt_b0, cond_dec, ratL, en, ed]
  by_cases c : a < 0
  · have e2 : subI .u64 0 (cvI .u64 a) = ((a.natAbs : Nat) : Int) := by
      have e3 : cvI .u64 a = a + 18446744073709551616 := by
        unfold cvI
        rw [IntKind.wrap_u64]
        omega
      rw [e3]
      unfold subI
      rw [IntKind.wrap_u64]
      omega
    rw [if_pos c, e2, nFromF_can (by omega), Option.bind_some, e1, Option.bind_some, decide_eq_true c]
  · have e2 : cvI .u64 a = ((a.natAbs : Nat) : Int) := by
      unfold cvI
      rw [IntKind.wrap_u64]
      omega
    rw [if_neg c, e2, nFromF_can (by omega), Option.bind_some, e1, Option.bind_some, decide_eq_false c]
theorem ratL_neg (q : Rat) : ratL (-q) = [AV.bool (decide (-q.num < 0)), AV.ints .u64 (can q.num.natAbs), AV.ints .u64 (can q.den)] := by
  unfold ratL
  rw [Rat.neg_num, Rat.neg_den, Int.natAbs_neg]
theorem raTurned_law {a : List AV} {t : List AV} (h : raTurnedF a = some t) : ∃ k : Nat, raTurned_b0 a = some t := by
  obtain ⟨⟨ha, hq⟩, rfl⟩ := gu_eq.1 h
  refine ⟨0, ?_⟩
  obtain ⟨q, rfl⟩ : ∃ q, a = ratL q := ⟨_, ha⟩
  rw [raTurned_b0, qOf_ratL, ratL_neg]
  simp only [rl0, rl1, rl2]
  by_cases c : q.num < 0
  · rw [decide_eq_true c, decide_eq_false (show ¬ -q.num < 0 by omega)]
    rfl
  · rw [decide_eq_false c]
    have : decide ((((can q.num.natAbs).length : Nat) : Int) > 0) = decide (-q.num < 0) := decide_eq_decide.2 (by rw [len_can_pos]; omega)
    rw [this]
    rfl
theorem raLowest_law {a : Bool} {b c : List Int} {t : List AV} (h : raLowestF (a, b, c) = some t) : ∃ k : Nat, raLowest_b0 a b c = some t := by
  obtain ⟨⟨hb, hc, hne, hL⟩, rfl⟩ := gu_eq.1 h
  refine ⟨0, ?_⟩
  dsimp only at *
  have hl : LowestF (b, c) = some (can (val b / Nat.gcd (val b) (val c)), can (val c / Nat.gcd (val b) (val c))) := gu_pos ⟨hb, hc⟩
  rw [raLowest_b0, hl, Option.bind_some, ratL_mk hne]
  cases a
  · rfl
  · rw [cond_t]
    have : decide ((((can (val b / Nat.gcd (val b) (val c))).length : Nat) : Int) > 0) = decide (val b / Nat.gcd (val b) (val c) ≠ 0) := decide_eq_decide.2 len_can_pos
    rw [this]
    rfl
theorem raLowestF_ok {s : Bool} {n d : Nat} (hn : n < Lim) (hd : d < Lim) (hne : d ≠ 0) : raLowestF (s, can n, can d) = some (ratL (mkRat (sg s n) d)) := by
  rw [raLowestF, gu_pos ⟨V_can hn, V_can hd, by show val (can d) ≠ 0; rw [val_can]; exact hne, by show val (can n) < Lim; rw [val_can]; exact hn⟩, val_can, val_can]
theorem raNew_law {a : Bool} {b c : List Int} {t : List AV × Int} (h : raNewF (a, b, c) = some t) : ∃ k : Nat, raNew_b0 a b c = some t := by
  obtain ⟨⟨hb, hc, hbL, hcL, hne⟩, rfl⟩ := gu_eq.1 h
  refine ⟨0, ?_⟩
  dsimp only at *
  have h1 := len_can_Lim hbL
  have h2 := len_can_Lim hcL
  rw [raNew_b0, nNormF_ok hb, Option.bind_some, nNormF_ok hc, Option.bind_some, cond_dec, if_neg (by rw [len_can0]; exact hne), cond_dec, if_neg (by omega), cond_dec, if_neg (by omega), raLowestF_ok hbL hcL hne, Option.bind_some]
  rfl
theorem raFits_law {a : List Int} {b : Int} {t : List Int} (h : raFitsF (a, b) = some t) : ∃ k : Nat, raFits_b0 a b = some t := by
  obtain ⟨hb, rfl⟩ := gu_eq.1 h
  refine ⟨0, ?_⟩
  dsimp only at *
  rw [raFits_b0, hb]
  rfl
theorem raFitsF_ok (a : List Int) : raFitsF (a, 0) = some a := gu_pos rfl
theorem raMuln_law {a b : List Int} {t : List Int} (h : raMulnF (a, b) = some t) : ∃ k : Nat, raMuln_b0 a b = some t := by
  obtain ⟨⟨ha, hb, hl⟩, rfl⟩ := gu_eq.1 h
  refine ⟨0, ?_⟩
  rw [raMuln_b0, nMulF_ok ha hb hl, Option.bind_some, raFitsF_ok]
  rfl
theorem raMulnF_ok {n m : Nat} (hn : n < Lim) (hm : m < Lim) (h : n * m < Lim) : raMulnF (can n, can m) = some (can (n * m)) := by
  rw [raMulnF, gu_pos ⟨V_can hn, V_can hm, by show val (can n) * val (can m) < Lim; rw [val_can, val_can]; exact h⟩, val_can, val_can]
theorem nz1_law {a : Int} {t : Bool} (h : nz1F a = some t) : ∃ k : Nat, nz1_b0 a = some t := by
  obtain ⟨_, rfl⟩ := gu_eq.1 h
  refine ⟨0, ?_⟩
  rw [nz1_b0]
  simp
theorem idx_loop {a : List Int} (hl : a.length ≤ 17592186044416) : ∀ (n i k : Nat), i + n = a.length → n + 1 ≤ k → idx_L4 k a (a.length : Int) (i : Int) = some (nzI (a.drop i) i)
  | n, i, 0, _, hk => by omega
  | 0, i, k + 1, hi, _ => by
    rw [idx_L4, idx_b4, cond_dec, if_neg (by omega), List.drop_of_length_le (by omega)]
    rfl
  | n + 1, i, k + 1, hi, hk => by
    have hi' : i < a.length := by omega
    rw [idx_L4, idx_b4, cond_dec, if_pos (by omega), inR hi', cond_t, nz1F, gu_pos trivial, Option.bind_some, rdI_nat, List.drop_eq_getElem_cons hi', nzI]
    have e : a.getD i 0 = a[i] := by rw [List.getD_eq_getElem?_getD, List.getElem?_eq_getElem hi']; rfl
    rw [e, cond_dec]
    by_cases c : a[i] ≠ 0
    · rw [if_pos c, if_pos c]
    · rw [if_neg c, if_neg c, inc (by omega)]
      exact idx_loop hl n (i + 1) k (by omega) (by omega)
theorem nzI_iff : ∀ (l : List Int) (i : Nat), W64 l → (nzI l i ≥ 0 ↔ val l ≠ 0)
  | [], i, _ => by simp [nzI, val]
  | x :: xs, i, h => by
    obtain ⟨hx, hxs⟩ := W64.cons.1 h
    rw [nzI, val]
    by_cases c : x ≠ 0
    · rw [if_pos c]
      constructor
      · intro _; omega
      · intro _; omega
    · rw [if_neg c, nzI_iff xs (i + 1) hxs]
      have : x.toNat = 0 := by omega
      rw [this]
      omega
theorem raSign_law {a : List AV} {t : Int} (h : raSignF a = some t) : ∃ k : Nat, raSign_b0 a = some t := by
  obtain ⟨⟨ha, hq⟩, rfl⟩ := gu_eq.1 h
  refine ⟨0, ?_⟩
  obtain ⟨q, rfl⟩ : ∃ q, a = ratL q := ⟨_, ha⟩
  rw [qOf_ratL] at hq ⊢
  have hv := V_can (qn_Lim hq)
  have h1 : anyfF (can q.num.natAbs, .fn 57) = some (decide (q.num.natAbs ≠ 0)) := by
    rw [anyfF, gu_pos ⟨rfl, hv.1, hv.2⟩, val_can]
  rw [raSign_b0]
  simp only [rl0, rl1]
  rw [h1, Option.bind_some]
  unfold sgnQ sgnI
  by_cases c : q.num = 0
  · have : q.num.natAbs = 0 := by omega
    rw [if_pos c, this]
    rfl
  · rw [if_neg c, decide_eq_true (show q.num.natAbs ≠ 0 by omega)]
    by_cases c2 : q.num < 0
    · rw [if_pos c2, decide_eq_true c2]; rfl
    · rw [if_neg c2, decide_eq_false c2]; rfl
theorem raSignF_ok {q : Rat} (h : qsz q ≤ 262144) : raSignF (ratL q) = some (sgnQ q) := by rw [raSignF, gu_pos ⟨isR_ratL q, by rw [qOf_ratL]; exact h⟩, qOf_ratL]
theorem nz1_ok : CtrOk Go.Proofs.Tryz.prog 57 (mkF [.int .u64] [.bool] nz1F) := by
  refine mkF_ok (c := bodyOf Go.Proofs.Tryz.f57) (tab := S.tab) (cts := []) (res := [2]) tab_ok hm trivial Go.Proofs.Tryz.func57 (by kernel_rfl) (by kernel_rfl) (by kernel_rfl) (by kernel_rfl) (by kernel_rfl) ?_
  rintro a t h
  obtain ⟨k, hk⟩ := nz1_law h
  exact ⟨nz1_h, 3000, k, (nz1_ev k a).trans hk⟩
theorem idx_ok : CtrOk Go.Proofs.Tryz.prog 79 (mkF [.sl (.int .u64), .opq 1] [.int .i64] idxF) := by
  refine mkF_ok (c := bodyOf Go.Proofs.Tryz.f79) (tab := S.tab) (cts := [(57, mkF [.int .u64] [.bool] nz1F)]) (res := [4]) tab_ok hm ⟨nz1_ok, trivial⟩ Go.Proofs.Tryz.func79 (by kernel_rfl) (by kernel_rfl) (by kernel_rfl) (by kernel_rfl) (by kernel_rfl) ?_
  rintro ⟨a, b⟩ t h
  obtain ⟨⟨hb, hl⟩, rfl⟩ := gu_eq.1 h
  dsimp only at hb hl
  subst hb
  refine ⟨idx_h, 3000, a.length + 1, (idx_ev (a.length + 1) a (.fn 57)).trans ?_⟩
  show idx_L4 (a.length + 1) a (↑(List.length a) : Int) (0 : Int) = _
  have := idx_loop hl a.length 0 (a.length + 1) (by omega) (by omega)
  exact this
theorem anyf_ok : CtrOk Go.Proofs.Tryz.prog 56 (mkF [.sl (.int .u64), .opq 1] [.bool] anyfF) := by
  refine mkF_ok (c := bodyOf Go.Proofs.Tryz.f56) (tab := S.tab) (cts := [(79, mkF [.sl (.int .u64), .opq 1] [.int .i64] idxF)]) (res := [4]) tab_ok hm ⟨idx_ok, trivial⟩ Go.Proofs.Tryz.func56 (by kernel_rfl) (by kernel_rfl) (by kernel_rfl) (by kernel_rfl) (by kernel_rfl) ?_
  rintro ⟨a, b⟩ t h
  obtain ⟨⟨hb, hw, hl⟩, rfl⟩ := gu_eq.1 h
  dsimp only at hb hw hl
  subst hb
  refine ⟨anyf_h, 3000, 0, (anyf_ev 0 a (.fn 57)).trans ?_⟩
  show (Option.bind (idxF (a, AV.fn 57)) fun t => some (decide (t ≥ (0 : Int)))) = _
  rw [idxF, gu_pos ⟨rfl, hl⟩, Option.bind_some]
  exact congrArg some (decide_eq_decide.2 (nzI_iff a 0 hw))
theorem sg_muln (s : Bool) (n d : Nat) : sg s n * (d : Int) = sg s (n * d) := by
  cases s <;> simp [sg, Int.natCast_mul, Int.neg_mul]
theorem add_mk (p q : Rat) : p + q = mkRat (sg (decide (p.num < 0)) (p.num.natAbs * q.den) + sg (decide (q.num < 0)) (q.num.natAbs * p.den)) (p.den * q.den) := by
  have h := Rat.mkRat_add_mkRat (sg (decide (p.num < 0)) p.num.natAbs) (sg (decide (q.num < 0)) q.num.natAbs) p.den_nz q.den_nz
  rw [← num_sg p, ← num_sg q, sg_muln, sg_muln] at h
  exact h
theorem mul_mk (p q : Rat) : p * q = mkRat (sg (decide (p.num < 0) != decide (q.num < 0)) (p.num.natAbs * q.num.natAbs)) (p.den * q.den) := by
  have h := mk_mul (decide (p.num < 0)) (decide (q.num < 0)) p.num.natAbs q.num.natAbs p.den q.den
  rw [← num_sg p, ← num_sg q] at h
  exact h
theorem sg_add_same (s : Bool) (n m : Nat) : sg s n + sg s m = sg s (n + m) := by cases s <;> simp [sg] <;> omega
theorem sg_zero (s : Bool) : sg s 0 = 0 := by cases s <;> rfl
theorem sg_add_lt {s t : Bool} {n m : Nat} (h : s ≠ t) (h2 : n < m) : sg s n + sg t m = sg t (m - n) := by cases s <;> cases t <;> simp [sg] at h ⊢ <;> omega
theorem sg_add_ge {s t : Bool} {n m : Nat} (h : s ≠ t) (h2 : ¬ n < m) : sg s n + sg t m = sg s (n - m) := by cases s <;> cases t <;> simp [sg] at h ⊢ <;> omega
theorem qsz_n {q : Rat} : blen q.num.natAbs ≤ qsz q := by unfold qsz; omega
theorem qsz_d {q : Rat} : blen q.den ≤ qsz q := by unfold qsz; omega
theorem sgn_lt0 (a b : Nat) : (sgn a b < 0) ↔ a < b := by unfold sgn; split <;> (try split) <;> omega
theorem raAdd1_law {a b : List AV} {t : List AV × List AV × List AV} (h : raAdd1F (a, b) = some t) : ∃ k : Nat, raAdd1_b0 a b = some t := by
  obtain ⟨⟨ha, hb, hq⟩, rfl⟩ := gu_eq.1 h
  refine ⟨0, ?_⟩
  dsimp only at *
  obtain ⟨p, rfl⟩ : ∃ q, a = ratL q := ⟨_, ha⟩
  obtain ⟨q, rfl⟩ : ∃ q, b = ratL q := ⟨_, hb⟩
  rw [qOf_ratL, qOf_ratL] at hq ⊢
  have hpn := qsz_n (q := p)
  have hpd := qsz_d (q := p)
  have hqn := qsz_n (q := q)
  have hqd := qsz_d (q := q)
  have hadd := add_mk p q
  have hD0 : p.den * q.den ≠ 0 := Nat.mul_ne_zero p.den_nz q.den_nz
  have hD := mul_Lim (a := p.den) (b := q.den) (by omega)
  have hN := mul_Lim (a := p.num.natAbs) (b := q.den) (by omega)
  have hM := mul_Lim (a := q.num.natAbs) (b := p.den) (by omega)
  have bN := bl_mul p.num.natAbs q.den
  have bM := bl_mul q.num.natAbs p.den
  have m1 := raMulnF_ok (bl_Lim (v := p.num.natAbs) (by omega)) (bl_Lim (v := q.den) (by omega)) hN
  have m2 := raMulnF_ok (bl_Lim (v := q.num.natAbs) (by omega)) (bl_Lim (v := p.den) (by omega)) hM
  have m3 := raMulnF_ok (bl_Lim (v := p.den) (by omega)) (bl_Lim (v := q.den) (by omega)) hD
  have zp : p.num < 0 → p.num.natAbs * q.den ≠ 0 := fun h => Nat.mul_ne_zero (by omega) q.den_nz
  have zq : q.num < 0 → q.num.natAbs * p.den ≠ 0 := fun h => Nat.mul_ne_zero (by omega) p.den_nz
  have fin : ∀ (s : Bool) (v : Nat), v < Lim → mkRat (sg s v) (p.den * q.den) = p + q → (Option.bind (raLowestF (s, can v, can (p.den * q.den))) fun t => some ([AV.bool (decide (p.num < 0)), AV.ints .u64 (can p.num.natAbs), AV.ints .u64 (can p.den)], [AV.bool (decide (q.num < 0)), AV.ints .u64 (can q.num.natAbs), AV.ints .u64 (can q.den)], [AV.bool (AV.toBool (aget t 0)), AV.ints .u64 (AV.asInts (aget t 1)), AV.ints .u64 (AV.asInts (aget t 2))])) = some (ratL p, ratL q, ratL (p + q)) := by
    intro s v hv h
    rw [raLowestF_ok hv hD hD0, Option.bind_some, h]
    rfl
  rw [raAdd1_b0]
  simp only [rl0, rl1, rl2, m1, m2, m3, Option.bind_some]
  generalize hNe : p.num.natAbs * q.den = N at *
  generalize hMe : q.num.natAbs * p.den = M at *
  generalize hDe : p.den * q.den = D at *
  have hS : N + M < Lim := by
    have := bl_add N M
    exact bl_Lim (by omega)
  have s1 : nAddF (can N, can M) = some (can (N + M), 0) := by
    rw [nAddF_ok (V_can hN) (V_can hM) (by rw [val_can, val_can]; exact hS), val_can, val_can]
  simp only [s1, Option.bind_some, raFitsF_ok, cond_dec, len_can0]
  generalize hP : decide (p.num < 0) = P at *
  generalize hQ : decide (q.num < 0) = Q at *
  have zp' : P = true → N ≠ 0 := fun h => zp (of_decide_eq_true (hP.trans h))
  have zq' : Q = true → M ≠ 0 := fun h => zq (of_decide_eq_true (hQ.trans h))
  by_cases c1 : P = Q
  · rw [if_pos c1]
    subst c1
    cases P
    · rw [if_neg (of_decide_eq_false hP)]
      exact fin false _ hS (by rw [hadd, sg_add_same])
    · rw [if_pos (of_decide_eq_true hP)]
      exact fin true _ hS (by rw [hadd, sg_add_same])
  · rw [if_neg c1]
    by_cases c2 : N = 0
    · rw [if_pos c2]
      have hPf : P = false := by cases P; rfl; exact absurd c2 (zp' rfl)
      subst hPf
      rw [if_neg (of_decide_eq_false hP)]
      refine fin Q _ hS ?_
      rw [hadd, c2, sg_zero, Int.zero_add, Nat.zero_add]
    · rw [if_neg c2]
      by_cases c3 : M = 0
      · rw [if_pos c3]
        have hQf : Q = false := by cases Q; rfl; exact absurd c3 (zq' rfl)
        subst hQf
        have hPt : P = true := by cases P; exact absurd rfl c1; rfl
        subst hPt
        rw [if_pos (of_decide_eq_true hP)]
        refine fin true _ hS ?_
        rw [hadd, c3, sg_zero, Int.add_zero, Nat.add_zero]
      · have hc : nCmpF (can N, can M) = some (sgn N M) := by rw [nCmpF_ok (V_can hN) (V_can hM), val_can, val_can]
        rw [if_neg c3, hc]
        simp only [Option.bind_some, sgn_lt0]
        by_cases c4 : N < M
        · have hs : nSubF (can M, can N) = some (can (M - N), 0) := by
            rw [nSubF_ok (V_can hM) (V_can hN) (by rw [val_can, val_can]; omega) (by rw [val_can]; exact hM), val_can, val_can]
          rw [if_pos c4, hs]
          simp only [Option.bind_some, raFitsF_ok]
          exact fin Q _ (by omega) (by rw [hadd, sg_add_lt c1 c4])
        · have hs : nSubF (can N, can M) = some (can (N - M), 0) := by
            rw [nSubF_ok (V_can hN) (V_can hM) (by rw [val_can, val_can]; omega) (by rw [val_can]; exact hN), val_can, val_can]
          rw [if_neg c4, hs]
          simp only [Option.bind_some, raFitsF_ok]
          exact fin P _ (by omega) (by rw [hadd, sg_add_ge c1 c4])
theorem raMul1_law {a b : List AV} {t : List AV × List AV × List AV} (h : raMul1F (a, b) = some t) : ∃ k : Nat, raMul1_b0 a b = some t := by
  obtain ⟨⟨ha, hb, hq⟩, rfl⟩ := gu_eq.1 h
  refine ⟨0, ?_⟩
  dsimp only at *
  obtain ⟨p, rfl⟩ : ∃ q, a = ratL q := ⟨_, ha⟩
  obtain ⟨q, rfl⟩ : ∃ q, b = ratL q := ⟨_, hb⟩
  rw [qOf_ratL, qOf_ratL] at hq ⊢
  have hpn := qsz_n (q := p)
  have hpd := qsz_d (q := p)
  have hqn := qsz_n (q := q)
  have hqd := qsz_d (q := q)
  have hD0 : p.den * q.den ≠ 0 := Nat.mul_ne_zero p.den_nz q.den_nz
  have hD := mul_Lim (a := p.den) (b := q.den) (by omega)
  have hN := mul_Lim (a := p.num.natAbs) (b := q.num.natAbs) (by omega)
  have m1 := raMulnF_ok (bl_Lim (v := p.num.natAbs) (by omega)) (bl_Lim (v := q.num.natAbs) (by omega)) hN
  have m3 := raMulnF_ok (bl_Lim (v := p.den) (by omega)) (bl_Lim (v := q.den) (by omega)) hD
  rw [raMul1_b0]
  simp only [rl0, rl1, rl2, m1, m3, Option.bind_some]
  have e : (!decide (decide (p.num < 0) = decide (q.num < 0))) = (decide (p.num < 0) != decide (q.num < 0)) := by
    cases decide (p.num < 0) <;> cases decide (q.num < 0) <;> rfl
  rw [e, raLowestF_ok hN hD hD0, ← mul_mk]
  rfl
theorem sgnI_sg (n d : Nat) (s : Bool) (h : d ≠ 0) : sgnQ (mkRat (sg s n) d) = if n = 0 then 0 else if s then -1 else 1 := by
  unfold sgnQ sgnI
  rw [num_mk h]
  have hg : Nat.gcd n d ≠ 0 := fun h0 => h (Nat.eq_zero_of_gcd_eq_zero_right h0)
  have hn : n / Nat.gcd n d = 0 ↔ n = 0 := by
    rw [Nat.div_eq_zero_iff]
    constructor
    · rintro (h1 | h1)
      · exact absurd h1 hg
      · rcases Nat.eq_zero_or_pos n with h2 | h2
        · exact h2
        · have := Nat.gcd_le_left d h2
          omega
    · intro h1
      right
      rw [h1] at hg ⊢
      omega
  by_cases c : n = 0
  · rw [if_pos c, hn.2 c, sg_zero, if_pos rfl]
  · have c2 : n / Nat.gcd n d ≠ 0 := fun h => c (hn.1 h)
    rw [if_neg c]
    generalize n / Nat.gcd n d = g at *
    cases s
    · have : sg false g = (g : Int) := rfl
      rw [this, if_neg (by omega), if_neg (by omega)]
      rfl
    · have : sg true g = -(g : Int) := rfl
      rw [this, if_neg (by omega), if_pos (by omega)]
      rfl
theorem cmp_mk (p q : Rat) : sgnQ (p - q) = (if sgnQ p < sgnQ q then -1 else if sgnQ q < sgnQ p then 1 else if sgnQ p < 0 then -(sgn (p.num.natAbs * q.den) (q.num.natAbs * p.den)) else sgn (p.num.natAbs * q.den) (q.num.natAbs * p.den)) := by
  have hD0 : p.den * q.den ≠ 0 := Nat.mul_ne_zero p.den_nz q.den_nz
  have h := add_mk p (-q)
  rw [← Rat.sub_eq_add_neg, Rat.neg_num, Rat.neg_den, Int.natAbs_neg] at h
  have zp : p.num ≠ 0 → p.num.natAbs * q.den ≠ 0 := fun h => Nat.mul_ne_zero (by omega) q.den_nz
  have zq : q.num ≠ 0 → q.num.natAbs * p.den ≠ 0 := fun h => Nat.mul_ne_zero (by omega) p.den_nz
  have zp0 : p.num = 0 → p.num.natAbs * q.den = 0 := fun h => by rw [h]; simp
  have zq0 : q.num = 0 → q.num.natAbs * p.den = 0 := fun h => by rw [h]; simp
  rw [h]
  unfold sgnQ
  generalize p.num.natAbs * q.den = N at *
  generalize q.num.natAbs * p.den = M at *
  generalize p.den * q.den = D at *
  generalize p.num = x at *
  generalize q.num = y at *
  have key : ∀ (s : Bool) (n : Nat), sgnI (mkRat (sg s n) D).num = if n = 0 then 0 else if s then -1 else 1 := fun s n => sgnI_sg n D s hD0
  rcases Int.lt_trichotomy x 0 with hx | hx | hx <;> rcases Int.lt_trichotomy y 0 with hy | hy | hy
  · -- both below
    have e1 : decide (x < 0) = true := decide_eq_true hx
    have e2 : decide (-y < 0) = false := decide_eq_false (by omega)
    have k1 : sgnI x = -1 := by unfold sgnI; rw [if_neg (by omega), if_pos hx]
    have k2 : sgnI y = -1 := by unfold sgnI; rw [if_neg (by omega), if_pos hy]
    rw [e1, e2, k1, k2, if_neg (by omega), if_neg (by omega), if_pos (by omega)]
    by_cases c : N < M
    · rw [sg_add_lt (by simp) c, key, if_neg (by omega)]
      unfold sgn
      rw [if_pos c]
      rfl
    · rw [sg_add_ge (by simp) c, key]
      unfold sgn
      rw [if_neg c]
      by_cases c2 : N = M
      · rw [if_pos (by omega), if_pos c2]; rfl
      · rw [if_neg (by omega), if_neg c2]; rfl
  · have hM := zq0 hy
    have e1 : decide (x < 0) = true := decide_eq_true hx
    have k1 : sgnI x = -1 := by unfold sgnI; rw [if_neg (by omega), if_pos hx]
    have k2 : sgnI y = 0 := by unfold sgnI; rw [if_pos hy]
    rw [e1, k1, k2, hM, sg_zero, Int.add_zero, key]
    simp [zp (show x ≠ 0 by omega)]
  · have e1 : decide (x < 0) = true := decide_eq_true hx
    have e2 : decide (-y < 0) = true := decide_eq_true (by omega)
    have k1 : sgnI x = -1 := by unfold sgnI; rw [if_neg (by omega), if_pos hx]
    have k2 : sgnI y = 1 := by unfold sgnI; rw [if_neg (by omega), if_neg (by omega)]
    have := zp (by omega)
    rw [e1, e2, k1, k2, sg_add_same, key]
    simp [this]
  · have hN := zp0 hx
    have e2 : decide (-y < 0) = false := decide_eq_false (by omega)
    have k1 : sgnI x = 0 := by unfold sgnI; rw [if_pos hx]
    have k2 : sgnI y = -1 := by unfold sgnI; rw [if_neg (by omega), if_pos hy]
    rw [e2, k1, k2, hN, sg_zero, Int.zero_add, key]
    simp [zq (show y ≠ 0 by omega)]
  · have hN := zp0 hx
    have hM := zq0 hy
    have k1 : sgnI x = 0 := by unfold sgnI; rw [if_pos hx]
    have k2 : sgnI y = 0 := by unfold sgnI; rw [if_pos hy]
    rw [k1, k2, hN, hM, sg_zero, sg_zero, Int.zero_add]
    have := key false 0
    rw [sg_zero] at this
    rw [this]
    rfl
  · have hN := zp0 hx
    have e2 : decide (-y < 0) = true := decide_eq_true (by omega)
    have k1 : sgnI x = 0 := by unfold sgnI; rw [if_pos hx]
    have k2 : sgnI y = 1 := by unfold sgnI; rw [if_neg (by omega), if_neg (by omega)]
    rw [e2, k1, k2, hN, sg_zero, Int.zero_add, key]
    simp [zq (show y ≠ 0 by omega)]
  · have e1 : decide (x < 0) = false := decide_eq_false (by omega)
    have e2 : decide (-y < 0) = false := decide_eq_false (by omega)
    have k1 : sgnI x = 1 := by unfold sgnI; rw [if_neg (by omega), if_neg (by omega)]
    have k2 : sgnI y = -1 := by unfold sgnI; rw [if_neg (by omega), if_pos hy]
    have := zp (by omega)
    rw [e1, e2, k1, k2, sg_add_same, key]
    simp [this]
  · have hM := zq0 hy
    have e1 : decide (x < 0) = false := decide_eq_false (by omega)
    have k1 : sgnI x = 1 := by unfold sgnI; rw [if_neg (by omega), if_neg (by omega)]
    have k2 : sgnI y = 0 := by unfold sgnI; rw [if_pos hy]
    rw [e1, k1, k2, hM, sg_zero, Int.add_zero, key]
    simp [zp (show x ≠ 0 by omega)]
  · have e1 : decide (x < 0) = false := decide_eq_false (by omega)
    have e2 : decide (-y < 0) = true := decide_eq_true (by omega)
    have k1 : sgnI x = 1 := by unfold sgnI; rw [if_neg (by omega), if_neg (by omega)]
    have k2 : sgnI y = 1 := by unfold sgnI; rw [if_neg (by omega), if_neg (by omega)]
    rw [e1, e2, k1, k2, if_neg (by omega), if_neg (by omega), if_neg (by omega)]
    by_cases c : N < M
    · rw [sg_add_lt (by simp) c, key, if_neg (by omega)]
      unfold sgn
      rw [if_pos c]
      rfl
    · rw [sg_add_ge (by simp) c, key]
      unfold sgn
      rw [if_neg c]
      by_cases c2 : N = M
      · rw [if_pos (by omega), if_pos c2]
      · rw [if_neg (by omega), if_neg c2]; rfl
theorem sgn_I (a b : Nat) : -1 ≤ sgn a b ∧ sgn a b ≤ 1 := by unfold sgn; split <;> (try split) <;> omega
theorem raCmp1_law {a b c : List AV} {t : List AV × List AV × List AV × List AV} (h : raCmp1F (a, b, c) = some t) : ∃ k : Nat, raCmp1_b0 a b c = some t := by
  obtain ⟨⟨ha, hb, hq⟩, rfl⟩ := gu_eq.1 h
  refine ⟨0, ?_⟩
  dsimp only at *
  obtain ⟨p, rfl⟩ : ∃ q, a = ratL q := ⟨_, ha⟩
  obtain ⟨q, rfl⟩ : ∃ q, b = ratL q := ⟨_, hb⟩
  rw [qOf_ratL, qOf_ratL] at hq ⊢
  have hpn := qsz_n (q := p)
  have hpd := qsz_d (q := p)
  have hqn := qsz_n (q := q)
  have hqd := qsz_d (q := q)
  have hN := mul_Lim (a := p.num.natAbs) (b := q.den) (by omega)
  have hM := mul_Lim (a := q.num.natAbs) (b := p.den) (by omega)
  have m1 := raMulnF_ok (bl_Lim (v := p.num.natAbs) (by omega)) (bl_Lim (v := q.den) (by omega)) hN
  have m2 := raMulnF_ok (bl_Lim (v := q.num.natAbs) (by omega)) (bl_Lim (v := p.den) (by omega)) hM
  have hc : nCmpF (can (p.num.natAbs * q.den), can (q.num.natAbs * p.den)) = some (sgn (p.num.natAbs * q.den) (q.num.natAbs * p.den)) := by rw [nCmpF_ok (V_can hN) (V_can hM), val_can, val_can]
  have hs := sgn_I (p.num.natAbs * q.den) (q.num.natAbs * p.den)
  have hneg : subI .i64 0 (sgn (p.num.natAbs * q.den) (q.num.natAbs * p.den)) = -(sgn (p.num.natAbs * q.den) (q.num.natAbs * p.den)) := by rw [subI_i64 (by omega)]; omega
  rw [raCmp1_b0, cmp_mk p q]
  simp only [rl0, rl1, rl2, rlE, raSignF_ok (show qsz p ≤ 262144 by omega), raSignF_ok (show qsz q ≤ 262144 by omega), Option.bind_some, cond_dec]
  by_cases c1 : sgnQ p < sgnQ q
  · rw [if_pos c1, if_pos c1]; rfl
  · rw [if_neg c1, if_neg c1]
    by_cases c2 : sgnQ q < sgnQ p
    · rw [if_pos c2, if_pos c2]; rfl
    · rw [if_neg c2, if_neg c2, m1, m2]
      simp only [Option.bind_some, hc, hneg]
      by_cases c3 : sgnQ p < 0
      · rw [if_pos c3, if_pos c3]; rfl
      · rw [if_neg c3, if_neg c3]; rfl
theorem raAdd1F_ok {p q : Rat} (h : qsz p + qsz q ≤ 262000) : raAdd1F (ratL p, ratL q) = some (ratL p, ratL q, ratL (p + q)) := by
  rw [raAdd1F, gu_pos ⟨isR_ratL p, isR_ratL q, by rw [qOf_ratL, qOf_ratL]; exact h⟩, qOf_ratL, qOf_ratL]
theorem raMul1F_ok {p q : Rat} (h : qsz p + qsz q ≤ 262000) : raMul1F (ratL p, ratL q) = some (ratL p, ratL q, ratL (p * q)) := by
  rw [raMul1F, gu_pos ⟨isR_ratL p, isR_ratL q, by rw [qOf_ratL, qOf_ratL]; exact h⟩, qOf_ratL, qOf_ratL]
theorem raCmp1F_ok {p q : Rat} {c : List AV} (h : qsz p + qsz q ≤ 262000) : raCmp1F (ratL p, ratL q, c) = some (ratL p, ratL q, [.int .i64 (sgnQ (p - q))], zeroR) := by
  rw [raCmp1F, gu_pos ⟨isR_ratL p, isR_ratL q, by rw [qOf_ratL, qOf_ratL]; exact h⟩, qOf_ratL, qOf_ratL]
theorem raRecAdd_law {a b c d : List AV} {t : List AV × List AV × List AV × Int} (h : raRecAddF (a, b, c, d) = some t) : ∃ k : Nat, raRecAdd_b0 a b c d = some t := by
  obtain ⟨⟨⟨ha, hb, hq⟩, hc, hd, hq2⟩, rfl⟩ := gu_eq.1 h
  refine ⟨0, ?_⟩
  dsimp only at *
  obtain ⟨p, rfl⟩ : ∃ q, a = ratL q := ⟨_, ha⟩
  obtain ⟨q, rfl⟩ : ∃ q, b = ratL q := ⟨_, hb⟩
  obtain ⟨r, rfl⟩ : ∃ q, c = ratL q := ⟨_, hc⟩
  obtain ⟨s, rfl⟩ : ∃ q, d = ratL q := ⟨_, hd⟩
  rw [qOf_ratL, qOf_ratL] at hq hq2 ⊢
  rw [raRecAdd_b0]
  simp only [rl0, rl1, rl2, rlE, raCheckF_ok (show qsz p ≤ 262144 by omega), raCheckF_ok (show qsz q ≤ 262144 by omega), raAdd1F_ok hq2, Option.bind_some]
  rfl
theorem raRecMul_law {a b c d : List AV} {t : List AV × List AV × List AV × Int} (h : raRecMulF (a, b, c, d) = some t) : ∃ k : Nat, raRecMul_b0 a b c d = some t := by
  obtain ⟨⟨⟨ha, hb, hq⟩, hc, hd, hq2⟩, rfl⟩ := gu_eq.1 h
  refine ⟨0, ?_⟩
  dsimp only at *
  obtain ⟨p, rfl⟩ : ∃ q, a = ratL q := ⟨_, ha⟩
  obtain ⟨q, rfl⟩ : ∃ q, b = ratL q := ⟨_, hb⟩
  obtain ⟨r, rfl⟩ : ∃ q, c = ratL q := ⟨_, hc⟩
  obtain ⟨s, rfl⟩ : ∃ q, d = ratL q := ⟨_, hd⟩
  rw [qOf_ratL, qOf_ratL] at hq hq2 ⊢
  rw [raRecMul_b0]
  simp only [rl0, rl1, rl2, rlE, raCheckF_ok (show qsz p ≤ 262144 by omega), raCheckF_ok (show qsz q ≤ 262144 by omega), raMul1F_ok hq2, Option.bind_some]
  rfl
theorem raRecCmp_law {a b c d e : List AV} {t : List AV × List AV × List AV × List AV × Int} (h : raRecCmpF (a, b, c, d, e) = some t) : ∃ k : Nat, raRecCmp_b0 a b c d e = some t := by
  obtain ⟨⟨⟨ha, hb, hq⟩, hc, hd, hq2⟩, rfl⟩ := gu_eq.1 h
  refine ⟨0, ?_⟩
  dsimp only at *
  obtain ⟨p, rfl⟩ : ∃ q, a = ratL q := ⟨_, ha⟩
  obtain ⟨q, rfl⟩ : ∃ q, b = ratL q := ⟨_, hb⟩
  obtain ⟨r, rfl⟩ : ∃ q, c = ratL q := ⟨_, hc⟩
  obtain ⟨s, rfl⟩ : ∃ q, d = ratL q := ⟨_, hd⟩
  rw [qOf_ratL, qOf_ratL] at hq hq2 ⊢
  rw [raRecCmp_b0]
  simp only [rl0, rl1, rl2, rlE, raCheckF_ok (show qsz p ≤ 262144 by omega), raCheckF_ok (show qsz q ≤ 262144 by omega), raCmp1F_ok hq2, Option.bind_some]
  rfl
theorem okP2_mk {p q : Rat} (h : qsz p + qsz q ≤ 262000) : okP2 (ratL p) (ratL q) := ⟨isR_ratL p, isR_ratL q, by rw [qOf_ratL, qOf_ratL]; exact h⟩
theorem raAdd_law {a b : List AV} {t : List AV × Int} (h : raAddF (a, b) = some t) : ∃ k : Nat, raAdd_b0 a b = some t := by
  obtain ⟨⟨ha, hb, hq⟩, rfl⟩ := gu_eq.1 h
  refine ⟨0, ?_⟩
  dsimp only at *
  obtain ⟨p, rfl⟩ : ∃ q, a = ratL q := ⟨_, ha⟩
  obtain ⟨q, rfl⟩ : ∃ q, b = ratL q := ⟨_, hb⟩
  rw [qOf_ratL, qOf_ratL] at hq ⊢
  have hr : raRecAddF (ratL p, ratL q, ratL p, ratL q) = some (ratL p, ratL q, ratL (p + q), 0) := by
    rw [raRecAddF, gu_pos ⟨okP2_mk hq, okP2_mk hq⟩, qOf_ratL, qOf_ratL]
  rw [raAdd_b0]
  simp only [rl0, rl1, rl2, rlE, hr, Option.bind_some]
theorem raMul_law {a b : List AV} {t : List AV × Int} (h : raMulF (a, b) = some t) : ∃ k : Nat, raMul_b0 a b = some t := by
  obtain ⟨⟨ha, hb, hq⟩, rfl⟩ := gu_eq.1 h
  refine ⟨0, ?_⟩
  dsimp only at *
  obtain ⟨p, rfl⟩ : ∃ q, a = ratL q := ⟨_, ha⟩
  obtain ⟨q, rfl⟩ : ∃ q, b = ratL q := ⟨_, hb⟩
  rw [qOf_ratL, qOf_ratL] at hq ⊢
  have hr : raRecMulF (ratL p, ratL q, ratL p, ratL q) = some (ratL p, ratL q, ratL (p * q), 0) := by
    rw [raRecMulF, gu_pos ⟨okP2_mk hq, okP2_mk hq⟩, qOf_ratL, qOf_ratL]
  rw [raMul_b0]
  simp only [rl0, rl1, rl2, rlE, hr, Option.bind_some]
theorem raCmp_law {a b : List AV} {t : Int × Int} (h : raCmpF (a, b) = some t) : ∃ k : Nat, raCmp_b0 a b = some t := by
  obtain ⟨⟨ha, hb, hq⟩, rfl⟩ := gu_eq.1 h
  refine ⟨0, ?_⟩
  dsimp only at *
  obtain ⟨p, rfl⟩ : ∃ q, a = ratL q := ⟨_, ha⟩
  obtain ⟨q, rfl⟩ : ∃ q, b = ratL q := ⟨_, hb⟩
  rw [qOf_ratL, qOf_ratL] at hq ⊢
  have hr : raRecCmpF (ratL p, ratL q, ratL p, ratL q, [.int .i64 0]) = some (ratL p, ratL q, [.int .i64 (sgnQ (p - q))], zeroR, 0) := by
    rw [raRecCmpF, gu_pos ⟨okP2_mk hq, okP2_mk hq⟩, qOf_ratL, qOf_ratL]
  rw [raCmp_b0]
  simp only [rl0, rl1, rl2, rlE, hr, Option.bind_some]
  rfl
theorem raTurnedF_ok {q : Rat} (h : qsz q ≤ 262144) : raTurnedF (ratL q) = some (ratL (-q)) := by rw [raTurnedF, gu_pos ⟨isR_ratL q, by rw [qOf_ratL]; exact h⟩, qOf_ratL]
theorem raAddF_ok {p q : Rat} (h : qsz p + qsz q ≤ 262000) : raAddF (ratL p, ratL q) = some (ratL (p + q), 0) := by rw [raAddF, gu_pos (okP2_mk h), qOf_ratL, qOf_ratL]
theorem raMulF_ok {p q : Rat} (h : qsz p + qsz q ≤ 262000) : raMulF (ratL p, ratL q) = some (ratL (p * q), 0) := by rw [raMulF, gu_pos (okP2_mk h), qOf_ratL, qOf_ratL]
theorem raSubF_ok {p q : Rat} (h : qsz p + qsz q ≤ 262000) : raSubF (ratL p, ratL q) = some (ratL (p - q), 0) := by rw [raSubF, gu_pos (okP2_mk h), qOf_ratL, qOf_ratL]
theorem raCmpF_ok {p q : Rat} (h : qsz p + qsz q ≤ 262000) : raCmpF (ratL p, ratL q) = some (sgnQ (p - q), 0) := by rw [raCmpF, gu_pos (okP2_mk h), qOf_ratL, qOf_ratL]
theorem raSub_law {a b : List AV} {t : List AV × Int} (h : raSubF (a, b) = some t) : ∃ k : Nat, raSub_b0 a b = some t := by
  obtain ⟨⟨ha, hb, hq⟩, rfl⟩ := gu_eq.1 h
  refine ⟨0, ?_⟩
  dsimp only at *
  obtain ⟨p, rfl⟩ : ∃ q, a = ratL q := ⟨_, ha⟩
  obtain ⟨q, rfl⟩ : ∃ q, b = ratL q := ⟨_, hb⟩
  rw [qOf_ratL, qOf_ratL] at hq ⊢
  have h1 : qsz q ≤ 262144 := by omega
  rw [raSub_b0]
  simp only [rl0, rl1, rl2, rlE, raCheckF_ok h1, raTurnedF_ok h1, raAddF_ok (p := p) (q := -q) (by rw [qsz_neg]; exact hq), Option.bind_some]
  rw [Rat.sub_eq_add_neg]
  rfl
theorem raNewF_ok {s : Bool} {n d : Nat} (hn : n < Lim) (hd : d < Lim) (hne : d ≠ 0) : raNewF (s, can n, can d) = some (ratL (mkRat (sg s n) d), 0) := by
  rw [raNewF, gu_pos ⟨V_can hn, V_can hd, by show val (can n) < Lim; rw [val_can]; exact hn, by show val (can d) < Lim; rw [val_can]; exact hd, by show val (can d) ≠ 0; rw [val_can]; exact hne⟩, val_can, val_can]
theorem mt_lt {a : Int} (h : Wd a) : mt a < 9007199254740992 := by
  have := ff_rng (a := a)
  unfold mt
  split <;> omega
theorem ex_rng {a : Int} (h : Wd a) (h2 : ee a ≠ 2047) : -1074 ≤ ex a ∧ ex a ≤ 971 := by
  have := ee_rng h
  unfold ex
  split <;> omega
theorem blen_mt {a : Int} (h : Wd a) : blen (mt a) ≤ 53 := by
  rw [blen_le_iff]
  have : (2 : Nat) ^ 53 = 9007199254740992 := rfl
  rw [this]
  exact mt_lt h
theorem blen_p2 (n : Nat) : blen (2 ^ n) ≤ n + 1 := (blen_le_iff _ _).2 (Nat.pow_lt_pow_right (by omega) (by omega))
theorem nVal_law {a : Int} {t : List AV × Int} (h : nValF a = some t) : ∃ k : Nat, nVal_b0 a = some t := by
  obtain ⟨ha, rfl⟩ := gu_eq.1 h
  refine ⟨0, ?_⟩
  rw [nVal_b0, splF_ok ha, Option.bind_some]
  by_cases c : ee a = 2047
  · rw [if_pos c, if_pos c]
    rfl
  · have hr := ex_rng ha c
    have hm := mt_lt ha
    have hb := blen_mt ha
    have e1 : nFromF 1 = some (can 1) := nFromF_can (n := 1) (by omega)
    have b1 : blen 1 ≤ 1 := (blen_le_iff 1 1).2 (by decide)
    have l1 : (1 : Nat) < Lim := bl_Lim (by omega)
    rw [if_neg c, if_neg c]
    dsimp only
    have z : (!decide ((0 : Int) = 0)) = false := rfl
    rw [nFromF_can (n := mt a) (by omega), Option.bind_some, e1, Option.bind_some, cond_dec, z, cond_f]
    by_cases c2 : ex a < 0
    · obtain ⟨k, hk⟩ := Int.eq_ofNat_of_zero_le (show 0 ≤ -(ex a) by omega)
      have e2 : subI .i64 0 (ex a) = (k : Int) := by rw [subI_i64 (by omega)]; omega
      have e3 : nShlF (can 1, (k : Int)) = some (can (2 ^ k), 0) := by rw [nShlF_ok (V_can l1) (by rw [val_can]; omega), val_can, Nat.one_mul]
      have hp := blen_p2 k
      have hL : 2 ^ k < Lim := bl_Lim (Nat.le_trans hp (by omega))
      rw [if_pos c2, e2, e3]
      simp only [Option.bind_some]
      rw [raNewF_ok (bl_Lim (by omega)) hL (Nat.pos_iff_ne_zero.1 (Nat.pow_pos (by omega)))]
      have e4 : (ex a).toNat = 0 := by omega
      have e5 : (-(ex a)).toNat = k := by omega
      unfold fv
      rw [e4, e5, Nat.pow_zero, Nat.mul_one]
      rfl
    · obtain ⟨k, hk⟩ := Int.eq_ofNat_of_zero_le (show 0 ≤ ex a by omega)
      have e3 : nShlF (can (mt a), (k : Int)) = some (can (mt a * 2 ^ k), 0) := by rw [nShlF_ok (V_can (bl_Lim (by omega))) (by rw [val_can]; omega), val_can]
      have hp := blen_p2 k
      have hL : mt a * 2 ^ k < Lim := mul_Lim (by omega)
      rw [if_neg c2, hk, e3]
      simp only [Option.bind_some]
      rw [raNewF_ok hL l1 (by omega)]
      have e4 : (ex a).toNat = k := by omega
      have e5 : (-(ex a)).toNat = 0 := by omega
      unfold fv
      rw [e4, e5, Nat.pow_zero]
      rfl
theorem fld_ok : CtrOk Go.Proofs.Tryz.prog 96 (mkF [.int .u64] [.int .i64, .int .u64] fldF) := by
  refine mkF_ok (c := bodyOf Go.Proofs.Tryz.f96) (tab := S.tab) (cts := []) (res := [2, 3]) tab_ok hm trivial Go.Proofs.Tryz.func96 (by kernel_rfl) (by kernel_rfl) (by kernel_rfl) (by kernel_rfl) (by kernel_rfl) ?_
  rintro a t h
  obtain ⟨k, hk⟩ := fld_law h
  exact ⟨fld_h, 3000, k, (fld_ev k a).trans hk⟩
theorem cls_ok : CtrOk Go.Proofs.Tryz.prog 97 (mkF [.int .u64] [.int .i64] clsF) := by
  refine mkF_ok (c := bodyOf Go.Proofs.Tryz.f97) (tab := S.tab) (cts := [(96, mkF [.int .u64] [.int .i64, .int .u64] fldF)]) (res := [2]) tab_ok hm ⟨fld_ok, trivial⟩ Go.Proofs.Tryz.func97 (by kernel_rfl) (by kernel_rfl) (by kernel_rfl) (by kernel_rfl) (by kernel_rfl) ?_
  rintro a t h
  obtain ⟨k, hk⟩ := cls_law h
  exact ⟨cls_h, 3000, k, (cls_ev k a).trans hk⟩
theorem spl_ok : CtrOk Go.Proofs.Tryz.prog 75 (mkF [.int .u64] [.bool, .int .u64, .int .i64, .int .i64] splF) := by
  refine mkF_ok (c := bodyOf Go.Proofs.Tryz.f75) (tab := S.tab) (cts := [(96, mkF [.int .u64] [.int .i64, .int .u64] fldF), (97, mkF [.int .u64] [.int .i64] clsF)]) (res := [2, 3, 4, 5]) tab_ok hm ⟨fld_ok, cls_ok, trivial⟩ Go.Proofs.Tryz.func75 (by kernel_rfl) (by kernel_rfl) (by kernel_rfl) (by kernel_rfl) (by kernel_rfl) ?_
  rintro a t h
  obtain ⟨k, hk⟩ := spl_law h
  exact ⟨spl_h, 3000, k, (spl_ev k a).trans hk⟩
theorem raNormal_ok : CtrOk Go.Proofs.Tryz.prog 103 (mkF [.sl (.int .u64)] [.bool] raNormalF) := by
  refine mkF_ok (c := bodyOf Go.Proofs.Tryz.f103) (tab := S.tab) (cts := []) (res := [2]) tab_ok hm trivial Go.Proofs.Tryz.func103 (by kernel_rfl) (by kernel_rfl) (by kernel_rfl) (by kernel_rfl) (by kernel_rfl) ?_
  rintro a t h
  obtain ⟨k, hk⟩ := raNormal_law h
  exact ⟨raNormal_h, 3000, k, (raNormal_ev k a).trans hk⟩
theorem raCheck_ok : CtrOk Go.Proofs.Tryz.prog 82 (mkF [.st [.bool, .sl (.int .u64), .sl (.int .u64)]] [.int .i64] raCheckF) := by
  refine mkF_ok (c := bodyOf Go.Proofs.Tryz.f82) (tab := S.tab) (cts := [(103, mkF [.sl (.int .u64)] [.bool] raNormalF), (104, mkF [.sl (.int .u64)] [.int .u64, .bool] nWordF), (105, mkF [.sl (.int .u64), .sl (.int .u64)] [.sl (.int .u64)] GcdF)]) (res := [2]) tab_ok hm ⟨raNormal_ok, nWord_ok, Gcd_ok, trivial⟩ Go.Proofs.Tryz.func82 (by kernel_rfl) (by kernel_rfl) (by kernel_rfl) (by kernel_rfl) (by kernel_rfl) ?_
  rintro a t h
  obtain ⟨k, hk⟩ := raCheck_law h
  exact ⟨raCheck_h, 3000, k, (raCheck_ev k a).trans hk⟩
theorem raInt_ok : CtrOk Go.Proofs.Tryz.prog 65 (mkF [.int .i64] [.st [.bool, .sl (.int .u64), .sl (.int .u64)]] raIntF) := by
  refine mkR_ok (c := bodyOf Go.Proofs.Tryz.f65) (tab := S.tab) (cts := [(76, mkF [.int .u64] [.sl (.int .u64)] nFromF)]) (res := [.cell 2 34]) tab_ok hm ⟨nFrom_ok, trivial⟩ Go.Proofs.Tryz.func65 (by kernel_rfl) (by kernel_rfl) (by kernel_rfl) (by kernel_rfl) (by kernel_rfl) ?_
  rintro a t h
  obtain ⟨k, hk⟩ := raInt_law h
  exact ⟨raInt_h, 3000, k, (raInt_ev k a).trans hk⟩
theorem raTurned_ok : CtrOk Go.Proofs.Tryz.prog 83 (mkF [.st [.bool, .sl (.int .u64), .sl (.int .u64)]] [.st [.bool, .sl (.int .u64), .sl (.int .u64)]] raTurnedF) := by
  refine mkR_ok (c := bodyOf Go.Proofs.Tryz.f83) (tab := S.tab) (cts := []) (res := [.cell 2 34]) tab_ok hm trivial Go.Proofs.Tryz.func83 (by kernel_rfl) (by kernel_rfl) (by kernel_rfl) (by kernel_rfl) (by kernel_rfl) ?_
  rintro a t h
  obtain ⟨k, hk⟩ := raTurned_law h
  exact ⟨raTurned_h, 3000, k, (raTurned_ev k a).trans hk⟩
theorem raLowest_ok : CtrOk Go.Proofs.Tryz.prog 86 (mkF [.bool, .sl (.int .u64), .sl (.int .u64)] [.st [.bool, .sl (.int .u64), .sl (.int .u64)]] raLowestF) := by
  refine mkR_ok (c := bodyOf Go.Proofs.Tryz.f86) (tab := S.tab) (cts := [(107, mkF [.sl (.int .u64), .sl (.int .u64)] [.sl (.int .u64), .sl (.int .u64)] LowestF)]) (res := [.cell 6 34]) tab_ok hm ⟨Lowest_ok, trivial⟩ Go.Proofs.Tryz.func86 (by kernel_rfl) (by kernel_rfl) (by kernel_rfl) (by kernel_rfl) (by kernel_rfl) ?_
  rintro ⟨a, b, c⟩ t h
  obtain ⟨k, hk⟩ := raLowest_law h
  exact ⟨raLowest_h, 3000, k, (raLowest_ev k a b c).trans hk⟩
theorem raNew_ok : CtrOk Go.Proofs.Tryz.prog 78 (mkF [.bool, .sl (.int .u64), .sl (.int .u64)] [.st [.bool, .sl (.int .u64), .sl (.int .u64)], .int .i64] raNewF) := by
  refine mkR_ok (c := bodyOf Go.Proofs.Tryz.f78) (tab := S.tab) (cts := [(98, mkF [.sl (.int .u64)] [.sl (.int .u64)] nNormF), (86, mkF [.bool, .sl (.int .u64), .sl (.int .u64)] [.st [.bool, .sl (.int .u64), .sl (.int .u64)]] raLowestF)]) (res := [.cell 6 34, .tmp 7]) tab_ok hm ⟨nNormZ_ok, raLowest_ok, trivial⟩ Go.Proofs.Tryz.func78 (by kernel_rfl) (by kernel_rfl) (by kernel_rfl) (by kernel_rfl) (by kernel_rfl) ?_
  rintro ⟨a, b, c⟩ t h
  obtain ⟨k, hk⟩ := raNew_law h
  exact ⟨raNew_h, 3000, k, (raNew_ev k a b c).trans hk⟩
theorem raFits_ok : CtrOk Go.Proofs.Tryz.prog 89 (mkF [.sl (.int .u64), .int .i64] [.sl (.int .u64)] raFitsF) := by
  refine mkF_ok (c := bodyOf Go.Proofs.Tryz.f89) (tab := S.tab) (cts := []) (res := [4]) tab_ok hm trivial Go.Proofs.Tryz.func89 (by kernel_rfl) (by kernel_rfl) (by kernel_rfl) (by kernel_rfl) (by kernel_rfl) ?_
  rintro ⟨a, b⟩ t h
  obtain ⟨k, hk⟩ := raFits_law h
  exact ⟨raFits_h, 3000, k, (raFits_ev k a b).trans hk⟩
theorem raMuln_ok : CtrOk Go.Proofs.Tryz.prog 87 (mkF [.sl (.int .u64), .sl (.int .u64)] [.sl (.int .u64)] raMulnF) := by
  refine mkF_ok (c := bodyOf Go.Proofs.Tryz.f87) (tab := S.tab) (cts := [(108, mkF [.sl (.int .u64), .sl (.int .u64)] [.sl (.int .u64), .int .i64] nMulF), (89, mkF [.sl (.int .u64), .int .i64] [.sl (.int .u64)] raFitsF)]) (res := [4]) tab_ok hm ⟨nMul_ok, raFits_ok, trivial⟩ Go.Proofs.Tryz.func87 (by kernel_rfl) (by kernel_rfl) (by kernel_rfl) (by kernel_rfl) (by kernel_rfl) ?_
  rintro ⟨a, b⟩ t h
  obtain ⟨k, hk⟩ := raMuln_law h
  exact ⟨raMuln_h, 3000, k, (raMuln_ev k a b).trans hk⟩
theorem raSign_ok : CtrOk Go.Proofs.Tryz.prog 25 (mkF [.st [.bool, .sl (.int .u64), .sl (.int .u64)]] [.int .i64] raSignF) := by
  refine mkF_ok (c := bodyOf Go.Proofs.Tryz.f25) (tab := S.tab) (cts := [(56, mkF [.sl (.int .u64), .opq 1] [.bool] anyfF)]) (res := [2]) tab_ok hm ⟨anyf_ok, trivial⟩ Go.Proofs.Tryz.func25 (by kernel_rfl) (by kernel_rfl) (by kernel_rfl) (by kernel_rfl) (by kernel_rfl) ?_
  rintro a t h
  obtain ⟨k, hk⟩ := raSign_law h
  exact ⟨raSign_h, 3000, k, (raSign_ev k a).trans hk⟩
theorem raAdd1_ok : CtrOk Go.Proofs.Tryz.prog 88 (mkG [.p 34 [.bool, .sl (.int .u64), .sl (.int .u64)], .p 34 [.bool, .sl (.int .u64), .sl (.int .u64)]] [.v (.st [.bool, .sl (.int .u64), .sl (.int .u64)])] raAdd1F) := by
  refine mkG_ok (c := bodyOf Go.Proofs.Tryz.f88) (tab := S.tab) (cts := [(87, mkF [.sl (.int .u64), .sl (.int .u64)] [.sl (.int .u64)] raMulnF), (86, mkF [.bool, .sl (.int .u64), .sl (.int .u64)] [.st [.bool, .sl (.int .u64), .sl (.int .u64)]] raLowestF), (89, mkF [.sl (.int .u64), .int .i64] [.sl (.int .u64)] raFitsF), (90, mkF [.sl (.int .u64), .sl (.int .u64)] [.sl (.int .u64), .int .i64] nAddF), (91, mkF [.sl (.int .u64), .sl (.int .u64)] [.int .i64] nCmpF), (92, mkF [.sl (.int .u64), .sl (.int .u64)] [.sl (.int .u64), .int .i64] nSubF)]) (res := [.cell 2 34]) (fm := []) tab_ok hm ⟨raMuln_ok, raLowest_ok, raFits_ok, nAdd_ok, nCmp_ok, nSub_ok, trivial⟩ Go.Proofs.Tryz.func88 (by kernel_rfl) (by kernel_rfl) (by kernel_rfl) (by kernel_rfl) (by kernel_rfl) ?_
  rintro ⟨a, b⟩ t h
  obtain ⟨k, hk⟩ := raAdd1_law h
  exact ⟨raAdd1_h, 3000, k, (raAdd1_ev k a b).trans hk⟩
theorem raMul1_ok : CtrOk Go.Proofs.Tryz.prog 85 (mkG [.p 34 [.bool, .sl (.int .u64), .sl (.int .u64)], .p 34 [.bool, .sl (.int .u64), .sl (.int .u64)]] [.v (.st [.bool, .sl (.int .u64), .sl (.int .u64)])] raMul1F) := by
  refine mkG_ok (c := bodyOf Go.Proofs.Tryz.f85) (tab := S.tab) (cts := [(87, mkF [.sl (.int .u64), .sl (.int .u64)] [.sl (.int .u64)] raMulnF), (86, mkF [.bool, .sl (.int .u64), .sl (.int .u64)] [.st [.bool, .sl (.int .u64), .sl (.int .u64)]] raLowestF)]) (res := [.cell 2 34]) (fm := []) tab_ok hm ⟨raMuln_ok, raLowest_ok, trivial⟩ Go.Proofs.Tryz.func85 (by kernel_rfl) (by kernel_rfl) (by kernel_rfl) (by kernel_rfl) (by kernel_rfl) ?_
  rintro ⟨a, b⟩ t h
  obtain ⟨k, hk⟩ := raMul1_law h
  exact ⟨raMul1_h, 3000, k, (raMul1_ev k a b).trans hk⟩
theorem raCmp1_ok : CtrOk Go.Proofs.Tryz.prog 93 (mkG [.p 34 [.bool, .sl (.int .u64), .sl (.int .u64)], .p 34 [.bool, .sl (.int .u64), .sl (.int .u64)], .p 3 [.int .i64]] [.v (.st [.bool, .sl (.int .u64), .sl (.int .u64)])] raCmp1F) := by
  refine mkG_ok (c := bodyOf Go.Proofs.Tryz.f93) (tab := S.tab) (cts := [(25, mkF [.st [.bool, .sl (.int .u64), .sl (.int .u64)]] [.int .i64] raSignF), (87, mkF [.sl (.int .u64), .sl (.int .u64)] [.sl (.int .u64)] raMulnF), (91, mkF [.sl (.int .u64), .sl (.int .u64)] [.int .i64] nCmpF)]) (res := [.cell 3 34]) (fm := []) tab_ok hm ⟨raSign_ok, raMuln_ok, nCmp_ok, trivial⟩ Go.Proofs.Tryz.func93 (by kernel_rfl) (by kernel_rfl) (by kernel_rfl) (by kernel_rfl) (by kernel_rfl) ?_
  rintro ⟨a, b, c⟩ t h
  obtain ⟨k, hk⟩ := raCmp1_law h
  exact ⟨raCmp1_h, 3000, k, (raCmp1_ev k a b c).trans hk⟩
theorem raRecAdd_ok : CtrOk Go.Proofs.Tryz.prog 84 (mkGc (some (88, 2)) [.v (.st [.bool, .sl (.int .u64), .sl (.int .u64)]), .v (.st [.bool, .sl (.int .u64), .sl (.int .u64)]), .p 34 [.bool, .sl (.int .u64), .sl (.int .u64)], .p 34 [.bool, .sl (.int .u64), .sl (.int .u64)]] [.v (.st [.bool, .sl (.int .u64), .sl (.int .u64)]), .v (.int .i64)] raRecAddF) := by
  refine mkGc_ok (nop := fun g => Nat.beq g 106) nop_ok (c := bodyOf Go.Proofs.Tryz.f84) (tab := S.tab) (cts := [(82, mkF [.st [.bool, .sl (.int .u64), .sl (.int .u64)]] [.int .i64] raCheckF), (88, mkG [.p 34 [.bool, .sl (.int .u64), .sl (.int .u64)], .p 34 [.bool, .sl (.int .u64), .sl (.int .u64)]] [.v (.st [.bool, .sl (.int .u64), .sl (.int .u64)])] raAdd1F)]) (res := [.cell 6 34, .cell 7 27]) (fm := []) tab_ok hm ⟨raCheck_ok, raAdd1_ok, trivial⟩ Go.Proofs.Tryz.func84 (by kernel_rfl) (by kernel_rfl) (fun xs h => match xs, h with | [_, _, _, _], _ => ⟨rfl, Nat.le_of_ble_eq_true rfl⟩) (by kernel_rfl) (by kernel_rfl) ?_
  rintro ⟨a, b, c, d⟩ t h
  obtain ⟨k, hk⟩ := raRecAdd_law h
  exact ⟨raRecAdd_h, 3000, k, (raRecAdd_ev k a b c d).trans hk⟩
theorem raRecMul_ok : CtrOk Go.Proofs.Tryz.prog 84 (mkGc (some (85, 2)) [.v (.st [.bool, .sl (.int .u64), .sl (.int .u64)]), .v (.st [.bool, .sl (.int .u64), .sl (.int .u64)]), .p 34 [.bool, .sl (.int .u64), .sl (.int .u64)], .p 34 [.bool, .sl (.int .u64), .sl (.int .u64)]] [.v (.st [.bool, .sl (.int .u64), .sl (.int .u64)]), .v (.int .i64)] raRecMulF) := by
  refine mkGc_ok (nop := fun g => Nat.beq g 106) nop_ok (c := bodyOf Go.Proofs.Tryz.f84) (tab := S.tab) (cts := [(82, mkF [.st [.bool, .sl (.int .u64), .sl (.int .u64)]] [.int .i64] raCheckF), (85, mkG [.p 34 [.bool, .sl (.int .u64), .sl (.int .u64)], .p 34 [.bool, .sl (.int .u64), .sl (.int .u64)]] [.v (.st [.bool, .sl (.int .u64), .sl (.int .u64)])] raMul1F)]) (res := [.cell 6 34, .cell 7 27]) (fm := []) tab_ok hm ⟨raCheck_ok, raMul1_ok, trivial⟩ Go.Proofs.Tryz.func84 (by kernel_rfl) (by kernel_rfl) (fun xs h => match xs, h with | [_, _, _, _], _ => ⟨rfl, Nat.le_of_ble_eq_true rfl⟩) (by kernel_rfl) (by kernel_rfl) ?_
  rintro ⟨a, b, c, d⟩ t h
  obtain ⟨k, hk⟩ := raRecMul_law h
  exact ⟨raRecMul_h, 3000, k, (raRecMul_ev k a b c d).trans hk⟩
theorem raRecCmp_ok : CtrOk Go.Proofs.Tryz.prog 84 (mkGc (some (93, 3)) [.v (.st [.bool, .sl (.int .u64), .sl (.int .u64)]), .v (.st [.bool, .sl (.int .u64), .sl (.int .u64)]), .p 34 [.bool, .sl (.int .u64), .sl (.int .u64)], .p 34 [.bool, .sl (.int .u64), .sl (.int .u64)], .p 3 [.int .i64]] [.v (.st [.bool, .sl (.int .u64), .sl (.int .u64)]), .v (.int .i64)] raRecCmpF) := by
  refine mkGc_ok (nop := fun g => Nat.beq g 106) nop_ok (c := bodyOf Go.Proofs.Tryz.f84) (tab := S.tab) (cts := [(82, mkF [.st [.bool, .sl (.int .u64), .sl (.int .u64)]] [.int .i64] raCheckF), (93, mkG [.p 34 [.bool, .sl (.int .u64), .sl (.int .u64)], .p 34 [.bool, .sl (.int .u64), .sl (.int .u64)], .p 3 [.int .i64]] [.v (.st [.bool, .sl (.int .u64), .sl (.int .u64)])] raCmp1F)]) (res := [.cell 6 34, .cell 7 27]) (fm := []) tab_ok hm ⟨raCheck_ok, raCmp1_ok, trivial⟩ Go.Proofs.Tryz.func84 (by kernel_rfl) (by kernel_rfl) (fun xs h => match xs, h with | [_, _, _, _, _], _ => ⟨rfl, Nat.le_of_ble_eq_true rfl⟩) (by kernel_rfl) (by kernel_rfl) ?_
  rintro ⟨a, b, c, d, e⟩ t h
  obtain ⟨k, hk⟩ := raRecCmp_law h
  exact ⟨raRecCmp_h, 3000, k, (raRecCmp_ev k a b c d e).trans hk⟩
theorem raAdd_ok : CtrOk Go.Proofs.Tryz.prog 67 (mkF [.st [.bool, .sl (.int .u64), .sl (.int .u64)], .st [.bool, .sl (.int .u64), .sl (.int .u64)]] [.st [.bool, .sl (.int .u64), .sl (.int .u64)], .int .i64] raAddF) := by
  refine mkR_ok (c := bodyOf Go.Proofs.Tryz.f67) (tab := S.tab) (cts := [(84, mkGc (some (88, 2)) [.v (.st [.bool, .sl (.int .u64), .sl (.int .u64)]), .v (.st [.bool, .sl (.int .u64), .sl (.int .u64)]), .p 34 [.bool, .sl (.int .u64), .sl (.int .u64)], .p 34 [.bool, .sl (.int .u64), .sl (.int .u64)]] [.v (.st [.bool, .sl (.int .u64), .sl (.int .u64)]), .v (.int .i64)] raRecAddF)]) (res := [.cell 4 34, .tmp 5]) tab_ok hm ⟨raRecAdd_ok, trivial⟩ Go.Proofs.Tryz.func67 (by kernel_rfl) (by kernel_rfl) (by kernel_rfl) (by kernel_rfl) (by kernel_rfl) ?_
  rintro ⟨a, b⟩ t h
  obtain ⟨k, hk⟩ := raAdd_law h
  exact ⟨raAdd_h, 3000, k, (raAdd_ev k a b).trans hk⟩
theorem raMul_ok : CtrOk Go.Proofs.Tryz.prog 66 (mkF [.st [.bool, .sl (.int .u64), .sl (.int .u64)], .st [.bool, .sl (.int .u64), .sl (.int .u64)]] [.st [.bool, .sl (.int .u64), .sl (.int .u64)], .int .i64] raMulF) := by
  refine mkR_ok (c := bodyOf Go.Proofs.Tryz.f66) (tab := S.tab) (cts := [(84, mkGc (some (85, 2)) [.v (.st [.bool, .sl (.int .u64), .sl (.int .u64)]), .v (.st [.bool, .sl (.int .u64), .sl (.int .u64)]), .p 34 [.bool, .sl (.int .u64), .sl (.int .u64)], .p 34 [.bool, .sl (.int .u64), .sl (.int .u64)]] [.v (.st [.bool, .sl (.int .u64), .sl (.int .u64)]), .v (.int .i64)] raRecMulF)]) (res := [.cell 4 34, .tmp 5]) tab_ok hm ⟨raRecMul_ok, trivial⟩ Go.Proofs.Tryz.func66 (by kernel_rfl) (by kernel_rfl) (by kernel_rfl) (by kernel_rfl) (by kernel_rfl) ?_
  rintro ⟨a, b⟩ t h
  obtain ⟨k, hk⟩ := raMul_law h
  exact ⟨raMul_h, 3000, k, (raMul_ev k a b).trans hk⟩
theorem raSub_ok : CtrOk Go.Proofs.Tryz.prog 64 (mkF [.st [.bool, .sl (.int .u64), .sl (.int .u64)], .st [.bool, .sl (.int .u64), .sl (.int .u64)]] [.st [.bool, .sl (.int .u64), .sl (.int .u64)], .int .i64] raSubF) := by
  refine mkR_ok (c := bodyOf Go.Proofs.Tryz.f64) (tab := S.tab) (cts := [(82, mkF [.st [.bool, .sl (.int .u64), .sl (.int .u64)]] [.int .i64] raCheckF), (83, mkF [.st [.bool, .sl (.int .u64), .sl (.int .u64)]] [.st [.bool, .sl (.int .u64), .sl (.int .u64)]] raTurnedF), (67, mkF [.st [.bool, .sl (.int .u64), .sl (.int .u64)], .st [.bool, .sl (.int .u64), .sl (.int .u64)]] [.st [.bool, .sl (.int .u64), .sl (.int .u64)], .int .i64] raAddF)]) (res := [.cell 4 34, .tmp 5]) tab_ok hm ⟨raCheck_ok, raTurned_ok, raAdd_ok, trivial⟩ Go.Proofs.Tryz.func64 (by kernel_rfl) (by kernel_rfl) (by kernel_rfl) (by kernel_rfl) (by kernel_rfl) ?_
  rintro ⟨a, b⟩ t h
  obtain ⟨k, hk⟩ := raSub_law h
  exact ⟨raSub_h, 3000, k, (raSub_ev k a b).trans hk⟩
theorem raCmp_ok : CtrOk Go.Proofs.Tryz.prog 73 (mkF [.st [.bool, .sl (.int .u64), .sl (.int .u64)], .st [.bool, .sl (.int .u64), .sl (.int .u64)]] [.int .i64, .int .i64] raCmpF) := by
  refine mkF_ok (c := bodyOf Go.Proofs.Tryz.f73) (tab := S.tab) (cts := [(84, mkGc (some (93, 3)) [.v (.st [.bool, .sl (.int .u64), .sl (.int .u64)]), .v (.st [.bool, .sl (.int .u64), .sl (.int .u64)]), .p 34 [.bool, .sl (.int .u64), .sl (.int .u64)], .p 34 [.bool, .sl (.int .u64), .sl (.int .u64)], .p 3 [.int .i64]] [.v (.st [.bool, .sl (.int .u64), .sl (.int .u64)]), .v (.int .i64)] raRecCmpF)]) (res := [4, 5]) tab_ok hm ⟨raRecCmp_ok, trivial⟩ Go.Proofs.Tryz.func73 (by kernel_rfl) (by kernel_rfl) (by kernel_rfl) (by kernel_rfl) (by kernel_rfl) ?_
  rintro ⟨a, b⟩ t h
  obtain ⟨k, hk⟩ := raCmp_law h
  exact ⟨raCmp_h, 3000, k, (raCmp_ev k a b).trans hk⟩
theorem nVal_ok : CtrOk Go.Proofs.Tryz.prog 55 (mkF [.int .u64] [.st [.bool, .sl (.int .u64), .sl (.int .u64)], .int .i64] nValF) := by
  refine mkR_ok (c := bodyOf Go.Proofs.Tryz.f55) (tab := S.tab) (cts := [(75, mkF [.int .u64] [.bool, .int .u64, .int .i64, .int .i64] splF), (76, mkF [.int .u64] [.sl (.int .u64)] nFromF), (77, mkF [.sl (.int .u64), .int .i64] [.sl (.int .u64), .int .i64] nShlF), (78, mkF [.bool, .sl (.int .u64), .sl (.int .u64)] [.st [.bool, .sl (.int .u64), .sl (.int .u64)], .int .i64] raNewF)]) (res := [.cell 2 34, .tmp 3]) tab_ok hm ⟨spl_ok, nFrom_ok, nShl_ok, raNew_ok, trivial⟩ Go.Proofs.Tryz.func55 (by kernel_rfl) (by kernel_rfl) (by kernel_rfl) (by kernel_rfl) (by kernel_rfl) ?_
  rintro a t h
  obtain ⟨k, hk⟩ := nVal_law h
  exact ⟨nVal_h, 3000, k, (nVal_ev k a).trans hk⟩
end Go.RX.S
