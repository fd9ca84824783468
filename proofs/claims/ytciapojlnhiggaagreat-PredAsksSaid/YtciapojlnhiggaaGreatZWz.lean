/- plumbref22: what is computed; PredAsks. -/
import Derived.Test.YtciapojlnhiggaaGreatZTm
import Derived.Test.YtciapojlnhiggaaGreatZWr
import Derived.Test.YtciapojlnhiggaaGreatZWy
set_option linter.unusedVariables false
set_option linter.unusedSimpArgs false
namespace Go.RX.S
open Go Go.RX Go.Proofs
theorem zl0 (b : Bool) (n : Nat) : AV.toBool (aget (zL b n) 0) = b := Eq.trans rfl rfl
theorem zl1 (b : Bool) (n : Nat) : AV.asInts (aget (zL b n) 1) = can n := Eq.trans rfl rfl
theorem zneg_L (b : Bool) (n : Nat) : zneg (zL b n) = b := rfl
theorem zn_L (b : Bool) (n : Nat) : zn (zL b n) = n := val_can n
theorem isZ_L {B n : Nat} (b : Bool) (h : blen n ≤ B) : isZ B (zL b n) := ⟨by rw [zneg_L, zn_L], by rw [zn_L]; exact h⟩
theorem isZ.ex {B : Nat} {a : List AV} (h : isZ B a) : ∃ b n, a = zL b n ∧ blen n ≤ B := ⟨_, _, h.1, h.2⟩
theorem isZ.mono {A B : Nat} {a : List AV} (h : isZ A a) (hl : A ≤ B) : isZ B a := ⟨h.1, Nat.le_trans h.2 hl⟩
theorem etaZ {B : Nat} {a : List AV} (h : isZ B a) : [AV.bool (AV.toBool (aget a 0)), AV.ints .u64 (AV.asInts (aget a 1))] = a := by
  obtain ⟨b, n, rfl, _⟩ := h.ex
  rfl
theorem isZP.ex {B : Nat} {p : List AV} (h : isZP B p) : ∃ b n c m, p = zL b n ++ zL c m ∧ blen n ≤ B ∧ blen m ≤ B := by
  obtain ⟨b, n, e1, h1⟩ := h.1.ex
  obtain ⟨c, m, e2, h2⟩ := h.2.ex
  refine ⟨b, n, c, m, ?_, h1, h2⟩
  rw [← e1, ← e2]
  exact (List.take_append_drop 2 p).symm
theorem etaP {B : Nat} {p : List AV} (h : isZP B p) : [AV.bool (AV.toBool (aget p 0)), AV.ints .u64 (AV.asInts (aget p 1)), AV.bool (AV.toBool (aget p 2)), AV.ints .u64 (AV.asInts (aget p 3))] = p := by
  obtain ⟨b, n, c, m, rfl, _⟩ := h.ex
  rfl
theorem etaX {B : Nat} {p : List AV} (h : isZP B p) : [AV.bool (AV.toBool (aget p 0)), AV.ints .u64 (AV.asInts (aget p 1))] = zpX p := by
  obtain ⟨b, n, c, m, rfl, _⟩ := h.ex
  rfl
theorem etaY {B : Nat} {p : List AV} (h : isZP B p) : [AV.bool (AV.toBool (aget p 2)), AV.ints .u64 (AV.asInts (aget p 3))] = zpY p := by
  obtain ⟨b, n, c, m, rfl, _⟩ := h.ex
  rfl
theorem etaXY {A B : Nat} {x y : List AV} (hx : isZ A x) (hy : isZ B y) : [AV.bool (AV.toBool (aget x 0)), AV.ints .u64 (AV.asInts (aget x 1)), AV.bool (AV.toBool (aget y 0)), AV.ints .u64 (AV.asInts (aget y 1))] = x ++ y := by
  obtain ⟨b, n, rfl, _⟩ := hx.ex
  obtain ⟨c, m, rfl, _⟩ := hy.ex
  rfl
theorem isZP_app {B : Nat} {x y : List AV} (hx : isZ B x) (hy : isZ B y) : isZP B (x ++ y) ∧ zpX (x ++ y) = x ∧ zpY (x ++ y) = y := by
  obtain ⟨b, n, rfl, h1⟩ := hx.ex
  obtain ⟨c, m, rfl, h2⟩ := hy.ex
  exact ⟨⟨isZ_L b h1, isZ_L c h2⟩, rfl, rfl⟩
theorem isZP.mono {A B : Nat} {p : List AV} (h : isZP A p) (hl : A ≤ B) : isZP B p := ⟨h.1.mono hl, h.2.mono hl⟩
theorem can_4096 {n : Nat} (h : blen n ≤ 200000) : (can n).length ≤ 4096 := by
  have := can_len (n := lw) (bl_Lim (v := n) (by omega))
  rw [lw_eq] at this
  exact this
theorem Vz {n : Nat} (h : blen n ≤ 200000) : V (can n) := ⟨can_ok n, by have := can_4096 h; omega⟩
theorem r3A {n m : Nat} (hn : blen n ≤ 200000) (hm : blen m ≤ 200000) : r3AddF (can n, can m) = some (can (n + m)) := by
  have h1 := can_4096 hn
  have h2 := can_4096 hm
  rw [r3AddF, gu_pos ⟨Vz hn, Vz hm, by dsimp only; omega, by dsimp only; omega⟩, val_can, val_can]
theorem r3S {n m : Nat} (hn : blen n ≤ 200000) (hm : blen m ≤ 200000) (h : m ≤ n) : r3SubF (can n, can m) = some (can (n - m)) := by
  rw [r3SubF, gu_pos ⟨Vz hn, Vz hm, by rw [val_can, val_can]; exact h⟩, val_can, val_can]
theorem r3C {n m : Nat} (hn : blen n ≤ 200000) (hm : blen m ≤ 200000) : r3CmpF (can n, can m) = some (sgn n m) := by
  rw [r3CmpF, gu_pos ⟨(Vz hn).U, (Vz hm).U⟩, val_can, val_can]
theorem r3M {n m : Nat} (hn : blen n ≤ 200000) (hm : blen m ≤ 200000) : r3MulF (can n, can m) = some (can (n * m)) := by
  have h1 := can_4096 hn
  have h2 := can_4096 hm
  rw [r3MulF, gu_pos ⟨can_ok _, can_ok _, by dsimp only; omega, by dsimp only; omega⟩, val_can, val_can]
theorem r3B {n : Nat} (hn : blen n ≤ 200000) : r3BitsF (can n) = some (blen n : Int) := by
  rw [r3BitsF, gu_pos (Vz hn), val_can]
theorem addZ_L (s t : Bool) (n m : Nat) : addZ (zL s n) (zL t m) = if s = t then zL s (n + m) else if m ≤ n then zL s (n - m) else zL t (m - n) := by
  unfold addZ
  rw [zneg_L, zneg_L, zn_L, zn_L]
theorem negZ_L (s : Bool) (n : Nat) : negZ (zL s n) = zL (!s) n := by unfold negZ; rw [zneg_L, zn_L]
theorem mulZ_L (s t : Bool) (n m : Nat) : mulZ (zL s n) (zL t m) = zL (s != t) (n * m) := by unfold mulZ; rw [zneg_L, zneg_L, zn_L, zn_L]
theorem addZ_isZ {A : Nat} {a b : List AV} (ha : isZ A a) (hb : isZ A b) : isZ (A + 1) (addZ a b) := by
  obtain ⟨s, n, rfl, hn⟩ := ha.ex
  obtain ⟨t, m, rfl, hm⟩ := hb.ex
  rw [addZ_L]
  split
  · refine isZ_L _ ?_
    have := bl_add n m
    omega
  · split
    · refine isZ_L _ ?_
      have := bl_mono (show n - m ≤ n by omega)
      omega
    · refine isZ_L _ ?_
      have := bl_mono (show m - n ≤ m by omega)
      omega
theorem negZ_isZ {A : Nat} {a : List AV} (ha : isZ A a) : isZ A (negZ a) := by
  obtain ⟨s, n, rfl, hn⟩ := ha.ex
  rw [negZ_L]
  exact isZ_L _ hn
theorem subZ_isZ {A : Nat} {a b : List AV} (ha : isZ A a) (hb : isZ A b) : isZ (A + 1) (subZ a b) := addZ_isZ ha (negZ_isZ hb)
theorem mulZ_isZ {A B : Nat} {a b : List AV} (ha : isZ A a) (hb : isZ B b) : isZ (A + B) (mulZ a b) := by
  obtain ⟨s, n, rfl, hn⟩ := ha.ex
  obtain ⟨t, m, rfl, hm⟩ := hb.ex
  rw [mulZ_L]
  refine isZ_L _ ?_
  have := bl_mul n m
  omega
theorem zI_L (s : Bool) (n : Nat) : zI (zL s n) = sg s n := by unfold zI; rw [zneg_L, zn_L]
theorem addZ_I {A : Nat} {a b : List AV} (ha : isZ A a) (hb : isZ A b) : zI (addZ a b) = zI a + zI b := by
  obtain ⟨s, n, rfl, hn⟩ := ha.ex
  obtain ⟨t, m, rfl, hm⟩ := hb.ex
  rw [addZ_L, zI_L, zI_L]
  split
  · rename_i h
    subst h
    rw [zI_L]
    unfold sg
    split <;> omega
  · rename_i h
    split <;> rw [zI_L] <;> revert h <;> cases s <;> cases t <;> simp [sg] <;> omega
theorem negZ_I {A : Nat} {a : List AV} (ha : isZ A a) : zI (negZ a) = -zI a := by
  obtain ⟨s, n, rfl, hn⟩ := ha.ex
  rw [negZ_L, zI_L, zI_L]
  cases s <;> simp [sg]
theorem subZ_I {A : Nat} {a b : List AV} (ha : isZ A a) (hb : isZ A b) : zI (subZ a b) = zI a - zI b := by
  rw [subZ, addZ_I ha (negZ_isZ hb), negZ_I hb]
  omega
theorem mulZ_I {A B : Nat} {a b : List AV} (ha : isZ A a) (hb : isZ B b) : zI (mulZ a b) = zI a * zI b := by
  obtain ⟨s, n, rfl, hn⟩ := ha.ex
  obtain ⟨t, m, rfl, hm⟩ := hb.ex
  rw [mulZ_L, zI_L, zI_L, zI_L, sg_mul]
theorem zAddF_ok {a b : List AV} (ha : isZ 50000 a) (hb : isZ 50000 b) : zAddF (a, b) = some (addZ a b) := gu_pos ⟨ha, hb⟩
theorem zSubF_ok {a b : List AV} (ha : isZ 50000 a) (hb : isZ 50000 b) : zSubF (a, b) = some (subZ a b) := gu_pos ⟨ha, hb⟩
theorem zMulF_ok {a b : List AV} (ha : isZ 50000 a) (hb : isZ 50000 b) : zMulF (a, b) = some (mulZ a b) := gu_pos ⟨ha, hb⟩
theorem zSignF_ok {a : List AV} (ha : isZ 50000 a) : zSignF a = some (sgnI (zI a)) := gu_pos ha
theorem zAdd_law {a b t : List AV} (h : zAddF (a, b) = some t) : ∃ k : Nat, zAdd_b0 a b = some t := by
  obtain ⟨⟨ha, hb⟩, rfl⟩ := gu_eq.1 h
  refine ⟨0, ?_⟩
  dsimp only at *
  obtain ⟨s, n, rfl, hn⟩ := ha.ex
  obtain ⟨t, m, rfl, hm⟩ := hb.ex
  have e : (sgn n m ≥ 0) ↔ m ≤ n := by
    unfold sgn
    split
    · omega
    · split <;> omega
  rw [zAdd_b0, addZ_L]
  simp only [zl0, zl1, cond_dec, r3A (show blen n ≤ 200000 by omega) (show blen m ≤ 200000 by omega), r3C (show blen n ≤ 200000 by omega) (show blen m ≤ 200000 by omega), Option.bind_some, e]
  by_cases c : s = t
  · rw [if_pos c, if_pos c]
    rfl
  · rw [if_neg c, if_neg c]
    by_cases c2 : m ≤ n
    · rw [if_pos c2, if_pos c2, r3S (by omega) (by omega) c2]
      rfl
    · rw [if_neg c2, if_neg c2, r3S (by omega) (by omega) (by omega)]
      rfl
theorem negE {B : Nat} {a : List AV} (h : isZ B a) : [AV.bool !(AV.toBool (aget a 0)), AV.ints .u64 (AV.asInts (aget a 1))] = negZ a := by
  obtain ⟨s, n, rfl, hn⟩ := h.ex
  rw [negZ_L]
  rfl
theorem zSub_law {a b t : List AV} (h : zSubF (a, b) = some t) : ∃ k : Nat, zSub_b0 a b = some t := by
  obtain ⟨⟨ha, hb⟩, rfl⟩ := gu_eq.1 h
  refine ⟨0, ?_⟩
  dsimp only at *
  rw [zSub_b0, etaZ ha, negE hb, zAddF_ok ha (negZ_isZ hb), Option.bind_some, etaZ (addZ_isZ ha (negZ_isZ hb))]
  rfl
theorem zMul_law {a b t : List AV} (h : zMulF (a, b) = some t) : ∃ k : Nat, zMul_b0 a b = some t := by
  obtain ⟨⟨ha, hb⟩, rfl⟩ := gu_eq.1 h
  refine ⟨0, ?_⟩
  dsimp only at *
  obtain ⟨s, n, rfl, hn⟩ := ha.ex
  obtain ⟨t, m, rfl, hm⟩ := hb.ex
  rw [zMul_b0, mulZ_L]
  simp only [zl0, zl1, r3M (show blen n ≤ 200000 by omega) (show blen m ≤ 200000 by omega), Option.bind_some]
  have e : (!decide (s = t)) = (s != t) := by cases s <;> cases t <;> rfl
  rw [e]
  rfl
theorem blen_0 {n : Nat} : blen n = 0 ↔ n = 0 := by
  have := blen_le_iff 0 n
  omega
theorem zSign_law {a : List AV} {t : Int} (h : zSignF a = some t) : ∃ k : Nat, zSign_b0 a = some t := by
  obtain ⟨ha, rfl⟩ := gu_eq.1 h
  refine ⟨0, ?_⟩
  obtain ⟨s, n, rfl, hn⟩ := ha.ex
  rw [zSign_b0]
  simp only [zl0, zl1, r3B (show blen n ≤ 200000 by omega), Option.bind_some, cond_dec, zI_L]
  have e : ((blen n : Int) = 0) ↔ n = 0 := by
    have := blen_0 (n := n)
    omega
  simp only [e]
  unfold sgnI sg
  by_cases c : n = 0
  · subst c
    cases s <;> rfl
  · rw [if_neg c]
    cases s
    · rw [cond_f, if_neg (by simp <;> omega), if_neg (by simp <;> omega)]
    · rw [cond_t, if_neg (by simp <;> omega), if_pos (by simp <;> omega)]
theorem zfin_law {a : Int} {t : Bool} (h : zfinF a = some t) : ∃ k : Nat, zfin_b0 a = some t := by
  obtain ⟨ha, rfl⟩ := gu_eq.1 h
  refine ⟨0, ?_⟩
  rw [zfin_b0, bits_ee ha]
  by_cases c : ee a = 2047 <;> simp [c]
theorem zfinF_ok {a : Int} (h : Wd a) : zfinF a = some (decide (ee a ≠ 2047)) := gu_pos h
theorem zFin_loop {l : List AV} (hl : l.length ≤ 17592186044416) (hp : ∀ p ∈ l, isPt p.flds) : ∀ (n i k : Nat), i + n = l.length → n + 1 ≤ k → zFin_L4 k l (i : Int) = some ((l.drop i).all fun p => fin p.flds)
  | n, i, 0, _, hk => by omega
  | 0, i, k + 1, hi, _ => by
    rw [zFin_L4, zFin_b4, cond_dec, if_neg (by omega), List.drop_of_length_le (by omega)]
    rfl
  | n + 1, i, k + 1, hi, hk => by
    have hi' : i < l.length := by omega
    have hpt := hp _ (aget_mem l i hi')
    have e1 : AV.toInt (aget (AV.flds (aget l i)) 0) = px (aget l i).flds := rfl
    have e2 : AV.toInt (aget (AV.flds (aget l i)) 1) = py (aget l i).flds := rfl
    rw [zFin_L4, zFin_b4, cond_dec, if_pos (by omega), inR hi', cond_t, cond_t, Int.toNat_natCast, e1, e2, zfinF_ok hpt.1, zfinF_ok hpt.2, Option.bind_some, Option.bind_some, drop_cons hi', List.all_cons]
    by_cases c1 : ee (px (aget l i).flds) = 2047
    · have hf : fin (aget l i).flds = false := decide_eq_false (fun h => h.1 c1)
      rw [hf]
      simp [c1]
    · by_cases c2 : ee (py (aget l i).flds) = 2047
      · have hf : fin (aget l i).flds = false := decide_eq_false (fun h => h.2 c2)
        rw [hf]
        simp [c1, c2]
      · have hf : fin (aget l i).flds = true := decide_eq_true ⟨c1, c2⟩
        have ih := zFin_loop hl hp n (i + 1) k (by omega) (by omega)
        rw [hf, Bool.true_and, inc (by omega), ih]
        simp [c1, c2]
theorem zFin_law {a : List AV} {t : Bool} (h : fin22F a = some t) : ∃ k : Nat, zFin_b0 (zFin_L4 k) a = some t := by
  obtain ⟨⟨hl, hp⟩, rfl⟩ := gu_eq.1 h
  exact ⟨a.length + 1, zFin_loop hl hp a.length 0 (a.length + 1) (by omega) (by omega)⟩
theorem shl1 {m n : Nat} (hm : m < 18446744073709551616) (hn : n ≤ 100000) : r3ShlF ([(m : Int)], (n : Int)) = some (can (m * 2 ^ n)) := by
  have hw : W64 [(m : Int)] := W64.cons.2 ⟨⟨by omega, by omega⟩, W64.nil⟩
  have hv : val [(m : Int)] = m := by
    rw [val_cons, val_nil]
    omega
  rw [r3ShlF, gu_pos ⟨⟨hw, by show 1 ≤ 17592186044416; omega⟩, by dsimp only; omega, by dsimp only; omega, by show (n : Int).toNat / 64 + 1 + 1 ≤ 17592186044416; omega⟩, hv, Int.toNat_natCast]
theorem zWhole_law {a : Int} {t : List AV} (h : zWholeF a = some t) : ∃ k : Nat, zWhole_b0 a = some t := by
  obtain ⟨ha, rfl⟩ := gu_eq.1 h
  refine ⟨0, ?_⟩
  have h1 := ee_rng ha
  have h2 := ff_rng (a := a)
  have hng : (decide (shrI .u64 a 63 = 1)) = ng a := by
    obtain ⟨x, rfl, hx⟩ := ha.nat
    have e : shrI .u64 (x : Int) 63 = ((x / 9223372036854775808 : Nat) : Int) := by
      unfold shrI
      show Int.fdiv (x : Int) (2 ^ (min (63 : Int).toNat 64)) = _
      have : min (63 : Int).toNat 64 = 63 := rfl
      rw [this, Int.fdiv_eq_ediv_of_nonneg _ (by decide)]
      omega
    rw [e]
    unfold ng
    refine decide_eq_decide.2 ?_
    omega
  have hff : andI .u64 a 4503599627370495 = ff a := by
    obtain ⟨x, rfl, hx⟩ := ha.nat
    have := and_mask hx 52 4503599627370495 rfl (by decide)
    have p : (2 : Nat) ^ 52 = 4503599627370496 := rfl
    rw [p] at this
    rw [show (4503599627370495 : Int) = ((4503599627370495 : Nat) : Int) from rfl, this]
    unfold ff
    omega
  have hor : orI .u64 (ff a) 4503599627370496 = ((4503599627370496 + (ff a).toNat : Nat) : Int) := by
    obtain ⟨f, hf⟩ : ∃ f : Nat, ff a = (f : Int) := ⟨(ff a).toNat, by omega⟩
    rw [hf] at h2 ⊢
    have h3 := orI_nat (x := f) (y := 4503599627370496) (by omega) (by decide)
    have h4 := orI_nat (x := 4503599627370496) (y := f) (by decide) (by omega)
    have h5 := or_hid (f := f) (by omega)
    rw [Nat.or_comm] at h3
    have h6 : orI .u64 (f : Int) 4503599627370496 = orI .u64 4503599627370496 (f : Int) := h3.trans h4.symm
    rw [h6, h5, Int.toNat_natCast]
  rw [zWhole_b0, bits_ee ha, cvI_i64 (by omega), hng, hff, cond_dec]
  obtain ⟨e, he⟩ : ∃ e : Nat, ee a = (e : Int) := ⟨(ee a).toNat, by omega⟩
  obtain ⟨f, hf⟩ : ∃ f : Nat, ff a = (f : Int) := ⟨(ff a).toNat, by omega⟩
  by_cases c : ee a = 0
  · rw [if_neg (by omega), hf, c]
    have := shl1 (m := f) (n := 0) (by omega) (by omega)
    rw [show (0 : Int) = ((0 : Nat) : Int) from rfl, this, Option.bind_some]
    have e1 : mt a = f := by unfold mt; rw [if_pos c]; omega
    have e2 : zE a = 0 := by unfold zE; rw [if_pos c]; rfl
    rw [wZ, e1, e2]
    rfl
  · rw [if_pos (by omega), hor, subI_i64 (by omega), hf, Int.toNat_natCast]
    have := shl1 (m := 4503599627370496 + f) (n := e - 1) (by omega) (by omega)
    rw [show ee a - 1 = ((e - 1 : Nat) : Int) by omega, this, Option.bind_some]
    have e1 : mt a = 4503599627370496 + f := by unfold mt; rw [if_neg c]; omega
    have e2 : zE a = e - 1 := by unfold zE; rw [if_neg c]; omega
    rw [wZ, e1, e2]
    rfl
theorem zWholeF_ok {a : Int} (h : Wd a) : zWholeF a = some (wZ a) := gu_pos h
theorem wZ_isZ {a : Int} (h : Wd a) : isZ 2099 (wZ a) := by
  refine isZ_L _ ?_
  have h1 := ee_rng h
  have h2 : zE a ≤ 2046 := by
    unfold zE
    split <;> omega
  have h3 := blen_mt h
  have h4 := bl_mul (mt a) (2 ^ zE a)
  have h5 := blen_p2 (zE a)
  have h6 : blen (mt a * 2 ^ zE a) ≤ 53 + zE a := by
    rw [blen_le_iff, Nat.pow_add]
    exact Nat.mul_lt_mul_of_pos_right ((blen_le_iff _ _).1 h3) (Nat.pow_pos (by omega))
  omega
theorem zAt_law {a t : List AV} (h : zAtF a = some t) : ∃ k : Nat, zAt_b0 a = some t := by
  obtain ⟨ha, rfl⟩ := gu_eq.1 h
  refine ⟨0, ?_⟩
  have e1 : AV.toInt (aget a 0) = px a := rfl
  have e2 : AV.toInt (aget a 1) = py a := rfl
  rw [zAt_b0, e1, e2, zWholeF_ok ha.1, Option.bind_some, zWholeF_ok ha.2, Option.bind_some, etaXY (wZ_isZ ha.1) (wZ_isZ ha.2)]
  rfl
theorem zAtF_ok {a : List AV} (h : isPt a) : zAtF a = some (zAtV a) := gu_pos h
theorem zAt_isZP {a : List AV} (h : isPt a) : isZP 2099 (zAtV a) ∧ zpX (zAtV a) = wZ (px a) ∧ zpY (zAtV a) = wZ (py a) := isZP_app (wZ_isZ h.1) (wZ_isZ h.2)
theorem zMinus_law {a b t : List AV} (h : zMinusF (a, b) = some t) : ∃ k : Nat, zMinus_b0 a b = some t := by
  obtain ⟨⟨ha, hb⟩, rfl⟩ := gu_eq.1 h
  refine ⟨0, ?_⟩
  dsimp only at *
  rw [zMinus_b0, etaX ha, etaX hb, etaY ha, etaY hb, zSubF_ok (ha.1.mono (by omega)) (hb.1.mono (by omega)), Option.bind_some, zSubF_ok (ha.2.mono (by omega)) (hb.2.mono (by omega)), Option.bind_some, etaXY (subZ_isZ ha.1 hb.1) (subZ_isZ ha.2 hb.2)]
  rfl
theorem zMinusF_ok {a b : List AV} (ha : isZP 40000 a) (hb : isZP 40000 b) : zMinusF (a, b) = some (minusZ a b) := gu_pos ⟨ha, hb⟩
theorem minusZ_isZP {A : Nat} {a b : List AV} (ha : isZP A a) (hb : isZP A b) : isZP (A + 1) (minusZ a b) ∧ zpX (minusZ a b) = subZ (zpX a) (zpX b) ∧ zpY (minusZ a b) = subZ (zpY a) (zpY b) := isZP_app (subZ_isZ ha.1 hb.1) (subZ_isZ ha.2 hb.2)
theorem zCross_law {a b t : List AV} (h : zCrossF (a, b) = some t) : ∃ k : Nat, zCross_b0 a b = some t := by
  obtain ⟨⟨ha, hb⟩, rfl⟩ := gu_eq.1 h
  refine ⟨0, ?_⟩
  dsimp only at *
  have m1 := mulZ_isZ ha.1 hb.2
  have m2 := mulZ_isZ ha.2 hb.1
  rw [zCross_b0, etaX ha, etaX hb, etaY ha, etaY hb, zMulF_ok (ha.1.mono (by omega)) (hb.2.mono (by omega)), Option.bind_some, zMulF_ok (ha.2.mono (by omega)) (hb.1.mono (by omega)), Option.bind_some, etaZ m1, etaZ m2, zSubF_ok (m1.mono (by omega)) (m2.mono (by omega)), Option.bind_some, etaZ (subZ_isZ m1 m2)]
  rfl
theorem zCrossF_ok {a b : List AV} (ha : isZP 20000 a) (hb : isZP 20000 b) : zCrossF (a, b) = some (crossZ a b) := gu_pos ⟨ha, hb⟩
theorem crossZ_isZ {A : Nat} {a b : List AV} (ha : isZP A a) (hb : isZP A b) : isZ (A + A + 1) (crossZ a b) := subZ_isZ (mulZ_isZ ha.1 hb.2) (mulZ_isZ ha.2 hb.1)
theorem turn_isZ {a b c : List AV} (ha : isPt a) (hb : isPt b) (hc : isPt c) : isZ 4201 (turnZ a b c) := crossZ_isZ (minusZ_isZP (zAt_isZP hb).1 (zAt_isZP ha).1).1 (minusZ_isZP (zAt_isZP hc).1 (zAt_isZP ha).1).1
theorem zTurn_law {a b c t : List AV} (h : zTurnF (a, b, c) = some t) : ∃ k : Nat, zTurn_b0 a b c = some t := by
  obtain ⟨⟨ha, hb, hc⟩, rfl⟩ := gu_eq.1 h
  refine ⟨0, ?_⟩
  dsimp only at *
  have za := (zAt_isZP ha).1
  have zb := (zAt_isZP hb).1
  have zc := (zAt_isZP hc).1
  have gA : zAtF [AV.int .u64 (AV.toInt (aget a 0)), AV.int .u64 (AV.toInt (aget a 1))] = some (zAtV a) := zAtF_ok (a := pt (px a) (py a)) ha
  have gB : zAtF [AV.int .u64 (AV.toInt (aget b 0)), AV.int .u64 (AV.toInt (aget b 1))] = some (zAtV b) := zAtF_ok (a := pt (px b) (py b)) hb
  have gC : zAtF [AV.int .u64 (AV.toInt (aget c 0)), AV.int .u64 (AV.toInt (aget c 1))] = some (zAtV c) := zAtF_ok (a := pt (px c) (py c)) hc
  have m1 := (minusZ_isZP zb za).1
  have m2 := (minusZ_isZP zc za).1
  rw [zTurn_b0, gA, Option.bind_some, gB, Option.bind_some, etaP za, etaP zb, zMinusF_ok (zb.mono (by omega)) (za.mono (by omega)), Option.bind_some, gC, Option.bind_some, etaP zc, etaP m1, zMinusF_ok (zc.mono (by omega)) (za.mono (by omega)), Option.bind_some, etaP m2, zCrossF_ok (m1.mono (by omega)) (m2.mono (by omega)), Option.bind_some, etaZ (crossZ_isZ m1 m2)]
  rfl
theorem zTurnF_ok {a b c : List AV} (ha : isPt a) (hb : isPt b) (hc : isPt c) : zTurnF (a, b, c) = some (turnZ a b c) := gu_pos ⟨ha, hb, hc⟩
theorem zSquare_law {a t : List AV} (h : zSquareF a = some t) : ∃ k : Nat, zSquare_b0 a = some t := by
  obtain ⟨ha, rfl⟩ := gu_eq.1 h
  refine ⟨0, ?_⟩
  have m1 := mulZ_isZ ha.1 ha.1
  have m2 := mulZ_isZ ha.2 ha.2
  rw [zSquare_b0, etaX ha, etaY ha, zMulF_ok (ha.1.mono (by omega)) (ha.1.mono (by omega)), Option.bind_some, zMulF_ok (ha.2.mono (by omega)) (ha.2.mono (by omega)), Option.bind_some, etaZ m1, etaZ m2, zAddF_ok (m1.mono (by omega)) (m2.mono (by omega)), Option.bind_some, etaZ (addZ_isZ m1 m2)]
  rfl
theorem zSquareF_ok {a : List AV} (ha : isZP 20000 a) : zSquareF a = some (squareZ a) := gu_pos ha
theorem squareZ_isZ {A : Nat} {a : List AV} (ha : isZP A a) : isZ (A + A + 1) (squareZ a) := addZ_isZ (mulZ_isZ ha.1 ha.1) (mulZ_isZ ha.2 ha.2)
theorem sgn_mul_i64 (x y : Int) : mulI .i64 (sgnI x) (sgnI y) = sgnI x * sgnI y := by
  refine mulI_i64 ?_
  rcases sgnI_cases x with ⟨_, h⟩ | ⟨_, h⟩ | ⟨_, h⟩ <;> rcases sgnI_cases y with ⟨_, h2⟩ | ⟨_, h2⟩ | ⟨_, h2⟩ <;> rw [h, h2] <;> omega
theorem zInside_law {a b c : List AV} {t : Bool} (h : zInsideF (a, b, c) = some t) : ∃ k : Nat, zInside_b0 a b c = some t := by
  obtain ⟨⟨ha, hb, hc⟩, rfl⟩ := gu_eq.1 h
  refine ⟨0, ?_⟩
  dsimp only at *
  have m1 := subZ_isZ hc ha
  have m2 := subZ_isZ hc hb
  rw [zInside_b0, etaZ ha, etaZ hb, etaZ hc, zSubF_ok (hc.mono (by omega)) (ha.mono (by omega)), Option.bind_some, etaZ m1, zSignF_ok (m1.mono (by omega)), Option.bind_some, zSubF_ok (hc.mono (by omega)) (hb.mono (by omega)), Option.bind_some, etaZ m2, zSignF_ok (m2.mono (by omega)), Option.bind_some, sgn_mul_i64, subZ_I hc ha, subZ_I hc hb]
theorem zInsideF_ok {a b c : List AV} (ha : isZ 40000 a) (hb : isZ 40000 b) (hc : isZ 40000 c) : zInsideF (a, b, c) = some (decide (sgnI (zI c - zI a) * sgnI (zI c - zI b) ≤ 0)) := gu_pos ⟨ha, hb, hc⟩
/-- How many units one is. -/
def un : Nat := 1074
def unQ : Rat := ((2 ^ un : Nat) : Rat)
theorem unQ_pos : 0 < unQ := Rat.natCast_pos.2 (Nat.pow_pos (by omega))
theorem wZ_fv {a : Int} (h : Wd a) : ((zI (wZ a) : Int) : Rat) = fv a * unQ := by
  have h1 := ee_rng h
  have hu : un = 1074 := rfl
  have hz : (ex a).toNat + un = zE a + (-(ex a)).toNat := by
    unfold ex zE
    split <;> omega
  have e1 : unQ = mkRat (sg false (2 ^ un)) 1 := by
    unfold unQ sg
    rw [if_neg (by decide), Rat.mkRat_one]
    rfl
  have e2 : ((zI (wZ a) : Int) : Rat) = mkRat (sg (ng a) (mt a * 2 ^ zE a)) 1 := by
    rw [wZ, zI_L, Rat.mkRat_one]
  rw [e1, e2, fv, Rat.mkRat_mul_mkRat, sg_mul, Rat.mkRat_eq_iff (by omega) (by have : 0 < 2 ^ (-(ex a)).toNat := Nat.pow_pos (by omega); omega)]
  have e3 : mt a * 2 ^ (ex a).toNat * 2 ^ un = mt a * 2 ^ zE a * 2 ^ (-(ex a)).toNat := by
    rw [Nat.mul_assoc, ← Nat.pow_add, hz, Nat.pow_add, Nat.mul_assoc]
  rw [e3]
  have e4 : (ng a != false) = ng a := by cases ng a <;> rfl
  have e5 : ∀ (s : Bool) (n m : Nat), sg s n * (m : Int) = sg s (n * m) := fun s n m => by
    unfold sg
    split
    · rw [Int.natCast_mul, Int.neg_mul]
    · rw [Int.natCast_mul]
  rw [e4, e5, Nat.mul_one, Int.natCast_one, Int.mul_one]
theorem sgnI_of {k : Int} {q s : Rat} (hs : 0 < s) (h : ((k : Int) : Rat) = s * q) : sgnI k = sgnQ q := by rw [← sgnQ_int, h, sgnQ_sc hs]
/-- A point's place, in units. -/
structure InU (a : List AV) : Prop where
  p : isZP 2099 (zAtV a)
  x : ((zI (zpX (zAtV a)) : Int) : Rat) = X a * unQ
  y : ((zI (zpY (zAtV a)) : Int) : Rat) = Y a * unQ
theorem inU {a : List AV} (h : isPt a) : InU a := by
  obtain ⟨h1, h2, h3⟩ := zAt_isZP h
  exact ⟨h1, by rw [h2]; exact wZ_fv h.1, by rw [h3]; exact wZ_fv h.2⟩
/-- A difference, in units. -/
theorem minusU {a b : List AV} (ha : InU a) (hb : InU b) : isZP 2100 (minusZ (zAtV a) (zAtV b)) ∧ ((zI (zpX (minusZ (zAtV a) (zAtV b))) : Int) : Rat) = (X a - X b) * unQ ∧ ((zI (zpY (minusZ (zAtV a) (zAtV b))) : Int) : Rat) = (Y a - Y b) * unQ := by
  obtain ⟨h1, h2, h3⟩ := minusZ_isZP ha.p hb.p
  refine ⟨h1, ?_, ?_⟩
  · rw [h2, subZ_I ha.p.1 hb.p.1, Rat.intCast_sub, ha.x, hb.x]
    grind
  · rw [h3, subZ_I ha.p.2 hb.p.2, Rat.intCast_sub, ha.y, hb.y]
    grind
theorem turn_sgn {a b c : List AV} (ha : isPt a) (hb : isPt b) (hc : isPt c) : ((zI (turnZ a b c) : Int) : Rat) = (unQ * unQ) * arP a b c := by
  obtain ⟨p1, p2, p3⟩ := minusU (inU hb) (inU ha)
  obtain ⟨q1, q2, q3⟩ := minusU (inU hc) (inU ha)
  rw [turnZ, crossZ, subZ_I (mulZ_isZ p1.1 q1.2) (mulZ_isZ p1.2 q1.1), mulZ_I p1.1 q1.2, mulZ_I p1.2 q1.1, Rat.intCast_sub, Rat.intCast_mul, Rat.intCast_mul, p2, p3, q2, q3]
  unfold arP arQ
  grind
theorem un2_pos : 0 < unQ * unQ := Rat.mul_pos unQ_pos unQ_pos
theorem squareU {a b : List AV} (ha : InU a) (hb : InU b) : isZ 4201 (squareZ (minusZ (zAtV a) (zAtV b))) ∧ ((zI (squareZ (minusZ (zAtV a) (zAtV b))) : Int) : Rat) = (unQ * unQ) * dsP a b := by
  obtain ⟨p1, p2, p3⟩ := minusU ha hb
  refine ⟨squareZ_isZ p1, ?_⟩
  rw [squareZ, addZ_I (mulZ_isZ p1.1 p1.1) (mulZ_isZ p1.2 p1.2), mulZ_I p1.1 p1.1, mulZ_I p1.2 p1.2, Rat.intCast_add, Rat.intCast_mul, Rat.intCast_mul, p2, p3]
  unfold dsP sqQ
  grind
theorem fin22F_2 {a b : List AV} (ha : isPt a) (hb : isPt b) : fin22F [.agg a, .agg b] = some (fin a && fin b) := by
  have hp : ∀ p ∈ [AV.agg a, .agg b], isPt p.flds := fun p hp => by
    simp only [List.mem_cons, List.not_mem_nil, or_false] at hp
    rcases hp with rfl | rfl <;> assumption
  rw [fin22F, gu_pos ⟨by show 2 ≤ 17592186044416; omega, hp⟩]
  show some (fin a && (fin b && true)) = _
  cases fin a <;> cases fin b <;> rfl
theorem ptE (a : List AV) : [AV.int .u64 (AV.toInt (aget a 0)), AV.int .u64 (AV.toInt (aget a 1))] = pt (px a) (py a) := rfl
theorem gu_if {c : Bool} {α : Type} {x y : α} : (bif !c then some x else some y) = some (if c = true then y else x) := by cases c <;> rfl
theorem zOrient_law {a b c : List AV} {t : Int × Int} (h : pdOrientF (a, b, c) = some t) : ∃ k : Nat, zOrient_b0 a b c = some t := by
  obtain ⟨⟨ha, hb, hc⟩, rfl⟩ := gu_eq.1 h
  refine ⟨0, ?_⟩
  dsimp only at *
  have g1 := fin22F_3 (a := pt (px a) (py a)) (b := pt (px b) (py b)) (c := pt (px c) (py c)) ha hb hc
  have g2 : zTurnF (pt (px a) (py a), pt (px b) (py b), pt (px c) (py c)) = some (turnZ a b c) := zTurnF_ok (a := pt (px a) (py a)) (b := pt (px b) (py b)) (c := pt (px c) (py c)) ha hb hc
  have m := turn_isZ ha hb hc
  rw [zOrient_b0, ptE, ptE, ptE, g1, Option.bind_some, g2, Option.bind_some, etaZ m, zSignF_ok (m.mono (by omega)), Option.bind_some, gu_if, sgnI_of un2_pos (turn_sgn ha hb hc)]
  rfl
theorem zArea2_law {a b c : List AV} {t : List AV × Int} (h : pdArea2F (a, b, c) = some t) : ∃ k : Nat, zArea2_b0 a b c = some t := by
  obtain ⟨⟨ha, hb, hc⟩, rfl⟩ := gu_eq.1 h
  refine ⟨0, ?_⟩
  dsimp only at *
  have g1 := fin22F_3 (a := pt (px a) (py a)) (b := pt (px b) (py b)) (c := pt (px c) (py c)) ha hb hc
  have g2 : zTurnF (pt (px a) (py a), pt (px b) (py b), pt (px c) (py c)) = some (turnZ a b c) := zTurnF_ok (a := pt (px a) (py a)) (b := pt (px b) (py b)) (c := pt (px c) (py c)) ha hb hc
  have hu : un = 1074 := rfl
  have g3 : r3ShlF ([(1 : Int)], (2148 : Int)) = some (can (2 ^ (un + un))) := by
    have := shl1 (m := 1) (n := un + un) (by omega) (by omega)
    rw [Nat.one_mul] at this
    exact this
  obtain ⟨s, n, e, hn⟩ := (turn_isZ ha hb hc).ex
  have hT := turn_sgn ha hb hc
  rw [e, zI_L] at hT
  have hp2 : blen (2 ^ (un + un)) ≤ 2149 := Nat.le_trans (blen_p2 _) (by omega)
  have h0 : (2 ^ (un + un) : Nat) ≠ 0 := by have : 0 < 2 ^ (un + un) := Nat.pow_pos (by omega); omega
  have g4 : r3LowestF (can n, can (2 ^ (un + un))) = some (can (n / Nat.gcd n (2 ^ (un + un))), can (2 ^ (un + un) / Nat.gcd n (2 ^ (un + un)))) := by
    rw [r3LowestF, gu_pos ⟨L_can (bl_Lim (by omega)), L_can (bl_Lim (by omega))⟩, val_can, val_can]
  have hq : arP a b c = mkRat (sg s n) (2 ^ (un + un)) := by
    have e1 : ((2 ^ (un + un) : Nat) : Rat) = unQ * unQ := by rw [Nat.pow_add, Rat.natCast_mul]; rfl
    rw [Rat.mkRat_eq_div, Rat.div_def, hT, e1]
    have := Rat.mul_inv_cancel _ (show unQ * unQ ≠ 0 from fun h => by have := un2_pos; rw [h] at this; exact absurd this (by decide))
    grind
  have el : ((((can (n / Nat.gcd n (2 ^ (un + un)))).length : Nat) : Int) > 0) ↔ n / Nat.gcd n (2 ^ (un + un)) ≠ 0 := by
    have := len_can0 (v := n / Nat.gcd n (2 ^ (un + un)))
    omega
  have el2 : (decide ((((can (n / Nat.gcd n (2 ^ (un + un)))).length : Nat) : Int) > 0)) = decide (n / Nat.gcd n (2 ^ (un + un)) ≠ 0) := decide_eq_decide.2 el
  rw [zArea2_b0, ptE, ptE, ptE, g1, Option.bind_some, g2, Option.bind_some, e, g3, Option.bind_some, zl0, zl1, g4, Option.bind_some, hq, ratL_mk h0, el2]
  cases s
  · rw [cond_f, gu_if]
    rfl
  · rw [cond_t, gu_if]
    rfl
theorem ci_units (p0 p1 q0 q1 r0 r1 u : Rat) : (p0 * u) * ((q1 * u) * ((u * u) * sqQ r0 r1) - (r1 * u) * ((u * u) * sqQ q0 q1)) - (p1 * u) * ((q0 * u) * ((u * u) * sqQ r0 r1) - (r0 * u) * ((u * u) * sqQ q0 q1)) + ((u * u) * sqQ p0 p1) * ((q0 * u) * (r1 * u) - (r0 * u) * (q1 * u)) = (u * u) * (u * u) * ciQ p0 p1 q0 q1 r0 r1 := by
  unfold ciQ
  generalize sqQ p0 p1 = P
  generalize sqQ q0 q1 = Q
  generalize sqQ r0 r1 = R
  grind
theorem zInCircle_law {a b c d : List AV} {t : Int × Int} (h : pdInCircleF (a, b, c, d) = some t) : ∃ k : Nat, zInCircle_b0 a b c d = some t := by
  obtain ⟨⟨ha, hb, hc, hd⟩, rfl⟩ := gu_eq.1 h
  refine ⟨0, ?_⟩
  dsimp only at *
  have g1 := fin22F_4 (a := pt (px a) (py a)) (b := pt (px b) (py b)) (c := pt (px c) (py c)) (d := pt (px d) (py d)) ha hb hc hd
  have gA : zAtF (pt (px a) (py a)) = some (zAtV a) := zAtF_ok (a := pt (px a) (py a)) ha
  have gB : zAtF (pt (px b) (py b)) = some (zAtV b) := zAtF_ok (a := pt (px b) (py b)) hb
  have gC : zAtF (pt (px c) (py c)) = some (zAtV c) := zAtF_ok (a := pt (px c) (py c)) hc
  have gD : zAtF (pt (px d) (py d)) = some (zAtV d) := zAtF_ok (a := pt (px d) (py d)) hd
  have ua := inU ha
  have ub := inU hb
  have uc := inU hc
  have ud := inU hd
  obtain ⟨p1, p2, p3⟩ := minusU ua ud
  obtain ⟨q1, q2, q3⟩ := minusU ub ud
  obtain ⟨r1, r2, r3⟩ := minusU uc ud
  obtain ⟨pw1, pw2⟩ := squareU ua ud
  obtain ⟨qw1, qw2⟩ := squareU ub ud
  obtain ⟨rw1, rw2⟩ := squareU uc ud
  have m1 := mulZ_isZ q1.2 rw1
  have m2 := mulZ_isZ r1.2 qw1
  have s1 := subZ_isZ m1 m2
  have x1 := mulZ_isZ p1.1 s1
  have m3 := mulZ_isZ q1.1 rw1
  have m4 := mulZ_isZ r1.1 qw1
  have s2 := subZ_isZ m3 m4
  have y1 := mulZ_isZ p1.2 s2
  have m5 := mulZ_isZ q1.1 r1.2
  have m6 := mulZ_isZ r1.1 q1.2
  have s3 := subZ_isZ m5 m6
  have w1 := mulZ_isZ pw1 s3
  have s4 := subZ_isZ x1 y1
  have w2 := w1.mono (show 4201 + (2100 + 2100 + 1) ≤ 2100 + (2100 + 4201 + 1) + 1 by omega)
  have f := addZ_isZ s4 w2
  rw [zInCircle_b0, ptE, ptE, ptE, ptE, g1, Option.bind_some, gD, Option.bind_some, gA, Option.bind_some, etaP ua.p, etaP ud.p, zMinusF_ok (ua.p.mono (show _ ≤ 40000 by omega)) (ud.p.mono (show _ ≤ 40000 by omega)), Option.bind_some, gB, Option.bind_some, etaP ub.p, zMinusF_ok (ub.p.mono (show _ ≤ 40000 by omega)) (ud.p.mono (show _ ≤ 40000 by omega)), Option.bind_some, gC, Option.bind_some, etaP uc.p, zMinusF_ok (uc.p.mono (show _ ≤ 40000 by omega)) (ud.p.mono (show _ ≤ 40000 by omega)), Option.bind_some, etaP p1, zSquareF_ok (p1.mono (show _ ≤ 20000 by omega)), Option.bind_some, etaP q1, zSquareF_ok (q1.mono (show _ ≤ 20000 by omega)), Option.bind_some, etaP r1, zSquareF_ok (r1.mono (show _ ≤ 20000 by omega)), Option.bind_some, etaZ pw1, etaZ qw1, etaZ rw1, etaX p1, etaY p1, etaX q1, etaY q1, etaX r1, etaY r1, zMulF_ok (q1.2.mono (show _ ≤ 50000 by omega)) (rw1.mono (show _ ≤ 50000 by omega)), Option.bind_some, zMulF_ok (r1.2.mono (show _ ≤ 50000 by omega)) (qw1.mono (show _ ≤ 50000 by omega)), Option.bind_some, etaZ m1, etaZ m2, zSubF_ok (m1.mono (show _ ≤ 50000 by omega)) (m2.mono (show _ ≤ 50000 by omega)), Option.bind_some, etaZ s1, zMulF_ok (p1.1.mono (show _ ≤ 50000 by omega)) (s1.mono (show _ ≤ 50000 by omega)), Option.bind_some, zMulF_ok (q1.1.mono (show _ ≤ 50000 by omega)) (rw1.mono (show _ ≤ 50000 by omega)), Option.bind_some, zMulF_ok (r1.1.mono (show _ ≤ 50000 by omega)) (qw1.mono (show _ ≤ 50000 by omega)), Option.bind_some, etaZ m3, etaZ m4, zSubF_ok (m3.mono (show _ ≤ 50000 by omega)) (m4.mono (show _ ≤ 50000 by omega)), Option.bind_some, etaZ s2, zMulF_ok (p1.2.mono (show _ ≤ 50000 by omega)) (s2.mono (show _ ≤ 50000 by omega)), Option.bind_some, zMulF_ok (q1.1.mono (show _ ≤ 50000 by omega)) (r1.2.mono (show _ ≤ 50000 by omega)), Option.bind_some, zMulF_ok (r1.1.mono (show _ ≤ 50000 by omega)) (q1.2.mono (show _ ≤ 50000 by omega)), Option.bind_some, etaZ m5, etaZ m6, zSubF_ok (m5.mono (show _ ≤ 50000 by omega)) (m6.mono (show _ ≤ 50000 by omega)), Option.bind_some, etaZ s3, zMulF_ok (pw1.mono (show _ ≤ 50000 by omega)) (s3.mono (show _ ≤ 50000 by omega)), Option.bind_some, etaZ x1, etaZ y1, zSubF_ok (x1.mono (show _ ≤ 50000 by omega)) (y1.mono (show _ ≤ 50000 by omega)), Option.bind_some, etaZ s4, etaZ w1, zAddF_ok (s4.mono (show _ ≤ 50000 by omega)) (w1.mono (show _ ≤ 50000 by omega)), Option.bind_some, etaZ f, zSignF_ok (f.mono (show _ ≤ 50000 by omega)), Option.bind_some, gu_if]
  rw [sgnI_of (q := ciP a b c d) (Rat.mul_pos un2_pos un2_pos)]
  · rfl
  · rw [addZ_I s4 w2, subZ_I x1 y1, mulZ_I p1.1 s1, mulZ_I p1.2 s2, mulZ_I pw1 s3, subZ_I m1 m2, subZ_I m3 m4, subZ_I m5 m6, mulZ_I q1.2 rw1, mulZ_I r1.2 qw1, mulZ_I q1.1 rw1, mulZ_I r1.1 qw1, mulZ_I q1.1 r1.2, mulZ_I r1.1 q1.2]
    simp only [Rat.intCast_sub, Rat.intCast_mul, Rat.intCast_add, p2, p3, q2, q3, r2, r3, pw2, qw2, rw2]
    exact ci_units _ _ _ _ _ _ _
theorem zNearer_law {a b c d : List AV} {t : Int × Int} (h : pdNearerF (a, b, c, d) = some t) : ∃ k : Nat, zNearer_b0 a b c d = some t := by
  obtain ⟨⟨ha, hb, hc, hd⟩, rfl⟩ := gu_eq.1 h
  refine ⟨0, ?_⟩
  dsimp only at *
  have g1 := fin22F_4 (a := pt (px a) (py a)) (b := pt (px b) (py b)) (c := pt (px c) (py c)) (d := pt (px d) (py d)) ha hb hc hd
  have gA : zAtF (pt (px a) (py a)) = some (zAtV a) := zAtF_ok (a := pt (px a) (py a)) ha
  have gB : zAtF (pt (px b) (py b)) = some (zAtV b) := zAtF_ok (a := pt (px b) (py b)) hb
  have gC : zAtF (pt (px c) (py c)) = some (zAtV c) := zAtF_ok (a := pt (px c) (py c)) hc
  have gD : zAtF (pt (px d) (py d)) = some (zAtV d) := zAtF_ok (a := pt (px d) (py d)) hd
  have ua := inU ha
  have ub := inU hb
  have uc := inU hc
  have ud := inU hd
  obtain ⟨p1, p2, p3⟩ := minusU ua ub
  obtain ⟨q1, q2, q3⟩ := minusU uc ud
  obtain ⟨pw1, pw2⟩ := squareU ua ub
  obtain ⟨qw1, qw2⟩ := squareU uc ud
  have f := subZ_isZ pw1 qw1
  rw [zNearer_b0]
  simp only [ptE, g1, gA, gB, gC, gD, Option.bind_some, etaP ua.p, etaP ub.p, etaP uc.p, etaP ud.p, zMinusF_ok (ua.p.mono (show 2099 ≤ 40000 by omega)) (ub.p.mono (show 2099 ≤ 40000 by omega)), zMinusF_ok (uc.p.mono (show 2099 ≤ 40000 by omega)) (ud.p.mono (show 2099 ≤ 40000 by omega)), etaP p1, etaP q1, zSquareF_ok (p1.mono (show 2100 ≤ 20000 by omega)), zSquareF_ok (q1.mono (show 2100 ≤ 20000 by omega)), etaZ pw1, etaZ qw1, zSubF_ok (pw1.mono (show _ ≤ 50000 by omega)) (qw1.mono (show _ ≤ 50000 by omega)), etaZ f, zSignF_ok (f.mono (show _ ≤ 50000 by omega)), gu_if]
  rw [sgnI_of (q := dsP a b - dsP c d) un2_pos]
  · rfl
  · rw [subZ_I pw1 qw1, Rat.intCast_sub, pw2, qw2]
    grind
theorem zCompare_law {a b : List AV} {t : Int} (h : zCompareF (a, b) = some t) : ∃ k : Nat, zCompare_b0 a b = some t := by
  obtain ⟨⟨ha, hb⟩, rfl⟩ := gu_eq.1 h
  refine ⟨0, ?_⟩
  dsimp only at *
  have gA : zAtF (pt (px a) (py a)) = some (zAtV a) := zAtF_ok (a := pt (px a) (py a)) ha
  have gB : zAtF (pt (px b) (py b)) = some (zAtV b) := zAtF_ok (a := pt (px b) (py b)) hb
  have ua := inU ha
  have ub := inU hb
  obtain ⟨p1, p2, p3⟩ := minusU ua ub
  have e1 : sgnI (zI (zpX (minusZ (zAtV a) (zAtV b)))) = sgnQ (X a - X b) := sgnI_of unQ_pos (by rw [p2, Rat.mul_comm])
  have e2 : sgnI (zI (zpY (minusZ (zAtV a) (zAtV b)))) = sgnQ (Y a - Y b) := sgnI_of unQ_pos (by rw [p3, Rat.mul_comm])
  rw [zCompare_b0]
  simp only [ptE, gA, gB, Option.bind_some, etaP ua.p, etaP ub.p, zMinusF_ok (ua.p.mono (show 2099 ≤ 40000 by omega)) (ub.p.mono (show 2099 ≤ 40000 by omega)), etaX p1, etaY p1, zSignF_ok (p1.1.mono (show _ ≤ 50000 by omega)), zSignF_ok (p1.2.mono (show _ ≤ 50000 by omega)), e1, e2, cond_ndec]
  unfold orP orQ
  by_cases c : sgnQ (X a - X b) = 0
  · rw [if_pos c, if_neg (by omega)]
  · rw [if_neg c, if_pos c]
theorem zCompareF_ok {a b : List AV} (ha : isPt a) (hb : isPt b) : zCompareF (a, b) = some (orP a b) := gu_pos ⟨ha, hb⟩
theorem zOrd_law {a b : List AV} {t : Int × Int} (h : pdOrdF (a, b) = some t) : ∃ k : Nat, zOrd_b0 a b = some t := by
  obtain ⟨⟨ha, hb⟩, rfl⟩ := gu_eq.1 h
  refine ⟨0, ?_⟩
  dsimp only at *
  have g1 := fin22F_2 (a := pt (px a) (py a)) (b := pt (px b) (py b)) ha hb
  have g2 : zCompareF (pt (px a) (py a), pt (px b) (py b)) = some (orP a b) := zCompareF_ok (a := pt (px a) (py a)) (b := pt (px b) (py b)) ha hb
  rw [zOrd_b0, ptE, ptE, g1, Option.bind_some, g2, Option.bind_some, gu_if]
  rfl
theorem sgn_mul0 (x y : Int) : sgnI x * sgnI y ≤ 0 ↔ x * y ≤ 0 := by
  rcases sgnI_cases x with ⟨h1, h⟩ | ⟨h1, h⟩ | ⟨h1, h⟩ <;> rcases sgnI_cases y with ⟨h3, h2⟩ | ⟨h3, h2⟩ | ⟨h3, h2⟩ <;> rw [h, h2]
  · have := Int.mul_pos_of_neg_of_neg h1 h3; omega
  · subst h3; simp
  · have := Int.mul_neg_of_neg_of_pos h1 h3; omega
  · subst h1; simp
  · subst h1; simp
  · subst h1; simp
  · have := Int.mul_neg_of_pos_of_neg h1 h3; omega
  · subst h3; simp
  · have := Int.mul_pos h1 h3; omega
theorem both_int {ux uy wx wy : Int} (h : ux * wy = wx * uy) : ux * wx + uy * wy ≤ 0 ↔ ux * wx ≤ 0 ∧ uy * wy ≤ 0 := by
  constructor
  · intro hs
    have hp : 0 ≤ (ux * wx) * (uy * wy) := by
      have e : (ux * wx) * (uy * wy) = (ux * wy) * (ux * wy) := by
        have : (ux * wx) * (uy * wy) = (ux * wy) * (wx * uy) := by grind
        rw [this, h]
      rw [e]
      rcases Int.lt_or_le (ux * wy) 0 with h' | h'
      · exact Int.le_of_lt (Int.mul_pos_of_neg_of_neg h' h')
      · exact Int.mul_nonneg h' h'
    generalize ux * wx = P at *
    generalize uy * wy = Q at *
    constructor
    · rcases Int.lt_or_le 0 P with hP | hP
      · have : P * Q < 0 := Int.mul_neg_of_pos_of_neg hP (by omega)
        omega
      · exact hP
    · rcases Int.lt_or_le 0 Q with hQ | hQ
      · have : P * Q < 0 := Int.mul_neg_of_neg_of_pos (by omega) hQ
        omega
      · exact hQ
  · rintro ⟨h1, h2⟩
    omega
def uX (a : List AV) : Int := zI (wZ (px a))
def uY (a : List AV) : Int := zI (wZ (py a))
theorem sX_u {a b : List AV} (ha : isPt a) (hb : isPt b) : sgnQ (X a - X b) = sgnI (uX a - uX b) := (sgnI_of unQ_pos (by unfold uX; rw [Rat.intCast_sub, wZ_fv ha.1, wZ_fv hb.1]; show _ = unQ * (fv (px a) - fv (px b)); grind)).symm
theorem sY_u {a b : List AV} (ha : isPt a) (hb : isPt b) : sgnQ (Y a - Y b) = sgnI (uY a - uY b) := (sgnI_of unQ_pos (by unfold uY; rw [Rat.intCast_sub, wZ_fv ha.2, wZ_fv hb.2]; show _ = unQ * (fv (py a) - fv (py b)); grind)).symm
theorem or_u {a b : List AV} (ha : isPt a) (hb : isPt b) : orP a b = lx (uX a - uX b) (uY a - uY b) := by
  unfold orP orQ lx
  rw [sX_u ha hb, sY_u ha hb]
  by_cases c : sgnI (uX a - uX b) = 0
  · rw [if_pos c, if_neg (by omega)]
  · rw [if_neg c, if_pos c]
theorem ar_u {a b c : List AV} (ha : isPt a) (hb : isPt b) (hc : isPt c) : sgnQ (arP a b c) = sgnI ((uX b - uX a) * (uY c - uY a) - (uY b - uY a) * (uX c - uX a)) := by
  refine (sgnI_of un2_pos ?_).symm
  unfold uX uY
  simp only [Rat.intCast_sub, Rat.intCast_mul, wZ_fv ha.1, wZ_fv ha.2, wZ_fv hb.1, wZ_fv hb.2, wZ_fv hc.1, wZ_fv hc.2]
  show _ = unQ * unQ * arQ (fv (px a)) (fv (py a)) (fv (px b)) (fv (py b)) (fv (px c)) (fv (py c))
  unfold arQ
  grind
theorem sgnI_zero {z : Int} : sgnI z = 0 ↔ z = 0 := by
  rcases sgnI_cases z with ⟨h1, h⟩ | ⟨h1, h⟩ | ⟨h1, h⟩ <;> omega
theorem bt_u {a b c : List AV} (ha : isPt a) (hb : isPt b) (hc : isPt c) : btP a b c = (if sgnQ (arP a b c) = 0 then (decide (sgnI (uX c - uX a) * sgnI (uX c - uX b) ≤ 0) && decide (sgnI (uY c - uY a) * sgnI (uY c - uY b) ≤ 0)) else false) := by
  unfold btP
  by_cases c0 : sgnQ (arP a b c) = 0
  · rw [if_pos c0, ← Bool.decide_and]
    refine decide_eq_decide.2 ?_
    rw [and_iff_right c0, sgn_mul0, sgn_mul0]
    rw [ar_u ha hb hc, sgnI_zero] at c0
    have hk : (uX c - uX a) * (uY c - uY b) = (uX c - uX b) * (uY c - uY a) := by grind
    rw [← both_int hk, ← between_int hk, or_u ha hc, or_u hc hb]
    have e1 : -(uX c - uX a) = uX a - uX c := by omega
    have e2 : -(uY c - uY a) = uY a - uY c := by omega
    rw [e1, e2]
  · rw [if_neg c0]
    exact decide_eq_false (fun h => c0 h.1)
theorem zBetween_law {a b c : List AV} {t : Bool × Int} (h : pdBetweenF (a, b, c) = some t) : ∃ k : Nat, zBetween_b0 a b c = some t := by
  obtain ⟨⟨ha, hb, hc⟩, rfl⟩ := gu_eq.1 h
  refine ⟨0, ?_⟩
  dsimp only at *
  have g1 := fin22F_3 (a := pt (px a) (py a)) (b := pt (px b) (py b)) (c := pt (px c) (py c)) ha hb hc
  have g2 : zTurnF (pt (px a) (py a), pt (px b) (py b), pt (px c) (py c)) = some (turnZ a b c) := zTurnF_ok (a := pt (px a) (py a)) (b := pt (px b) (py b)) (c := pt (px c) (py c)) ha hb hc
  have gA : zAtF (pt (px a) (py a)) = some (zAtV a) := zAtF_ok (a := pt (px a) (py a)) ha
  have gB : zAtF (pt (px b) (py b)) = some (zAtV b) := zAtF_ok (a := pt (px b) (py b)) hb
  have gC : zAtF (pt (px c) (py c)) = some (zAtV c) := zAtF_ok (a := pt (px c) (py c)) hc
  obtain ⟨a1, a2, a3⟩ := zAt_isZP ha
  obtain ⟨b1, b2, b3⟩ := zAt_isZP hb
  obtain ⟨c1, c2, c3⟩ := zAt_isZP hc
  have m := turn_isZ ha hb hc
  have i1 := zInsideF_ok (a1.1.mono (show 2099 ≤ 40000 by omega)) (b1.1.mono (show 2099 ≤ 40000 by omega)) (c1.1.mono (show 2099 ≤ 40000 by omega))
  have i2 := zInsideF_ok (a1.2.mono (show 2099 ≤ 40000 by omega)) (b1.2.mono (show 2099 ≤ 40000 by omega)) (c1.2.mono (show 2099 ≤ 40000 by omega))
  rw [zBetween_b0, ptE, ptE, ptE, g1, Option.bind_some, gA, Option.bind_some, gB, Option.bind_some, gC, Option.bind_some, g2, Option.bind_some, etaZ m, zSignF_ok (m.mono (by omega)), Option.bind_some, etaX a1, etaX b1, etaX c1, etaY a1, etaY b1, etaY c1, i1, Option.bind_some, i2, Option.bind_some, sgnI_of un2_pos (turn_sgn ha hb hc), bt_u ha hb hc, cond_dec, a2, a3, b2, b3, c2, c3]
  have f1 : (fin (pt (px a) (py a)) && fin (pt (px b) (py b)) && fin (pt (px c) (py c))) = (fin a && fin b && fin c) := rfl
  rw [f1]
  cases fin a && fin b && fin c
  · rfl
  · rw [Bool.not_true, cond_f, if_pos rfl]
    by_cases c0 : sgnQ (arP a b c) = 0
    · rw [if_pos c0, if_pos c0]
      unfold uX uY
      cases decide (sgnI (zI (wZ (px c)) - zI (wZ (px a))) * sgnI (zI (wZ (px c)) - zI (wZ (px b))) ≤ 0)
      · rw [cond_f, Bool.false_and]
      · rw [cond_t, Bool.true_and]
    · rw [if_neg c0, if_neg c0]
theorem same22_loop : ∀ (s s' p p' : List Int) (k : Nat), p.length = p'.length → s.length = s'.length → p.length + s.length ≤ 17609365913600 → s.length + 1 ≤ k → same22_L8 k (p ++ s) (p' ++ s') (p.length : Int) = some (@decide (s = s') (Classical.propDecidable _))
  | s, s', p, p', 0, _, _, _, hk => by omega
  | [], [], p, p', k + 1, hp, hs, hl, hk => by
    rw [same22_L8, same22_b8, cond_dec, if_neg (by simp)]
    simp
  | x :: s, y :: s', p, p', k + 1, hp, hs, hl, hk => by
    simp only [List.length_cons] at hs hl hk
    have h1 : p.length < (p ++ x :: s).length := by simp
    have h2 : p.length < (p' ++ y :: s').length := by simp [hp]
    rw [same22_L8, same22_b8, cond_dec, if_pos (by omega), inR h1, inR h2, cond_t, cond_t, rdI_mid rfl, rdI_mid hp.symm, cond_ndec, inc (by omega)]
    by_cases c : x = y
    · subst c
      rw [if_pos rfl, snoc_app p, snoc_app p', ← snoc_len p x, same22_loop s s' (p ++ [x]) (p' ++ [x]) k (by simp [hp]) (by omega) (by rw [snoc_len]; omega) (by omega)]
      simp
    · rw [if_neg c]
      simp [c]
  | [], _ :: _, p, p', k + 1, hp, hs, hl, hk => by simp at hs
  | _ :: _, [], p, p', k + 1, hp, hs, hl, hk => by simp at hs
theorem same22_law {a b : List Int} {t : Bool} (h : sameF (a, b) = some t) : ∃ k : Nat, same22_b0 (same22_L8 k) a b = some t := by
  obtain ⟨h1, rfl⟩ := gu_eq.1 h
  dsimp only at *
  refine ⟨a.length + 1, ?_⟩
  rw [same22_b0, cond_ndec]
  by_cases c : a.length = b.length
  · rw [if_pos (by omega)]
    exact same22_loop a b [] [] (a.length + 1) rfl c (by simpa using h1) (Nat.le_refl _)
  · rw [if_neg (by omega)]
    have : a ≠ b := fun e => c (by rw [e])
    simp [this]
theorem sameRat22_law {a b : List AV} {t : Bool} (h : sameRat22F (a, b) = some t) : ∃ k : Nat, sameRat22_b0 a b = some t := by
  obtain ⟨⟨h1, h2⟩, rfl⟩ := gu_eq.1 h
  dsimp only at *
  refine ⟨0, ?_⟩
  rw [sameRat22_b0, cond_dec, sameF_ok h1, sameF_ok h2, Option.bind_some, Option.bind_some]
  by_cases c0 : AV.toBool (aget a 0) = AV.toBool (aget b 0)
  · rw [if_pos c0]
    by_cases c1 : AV.asInts (aget a 1) = AV.asInts (aget b 1)
    · by_cases c2 : AV.asInts (aget a 2) = AV.asInts (aget b 2) <;> simp [c0, c1, c2]
    · simp [c1]
  · rw [if_neg c0]
    simp [c0]
theorem sameRat22_self {l : List AV} (h1 : (aget l 1).asInts.length ≤ 17609365913600) (h2 : (aget l 2).asInts.length ≤ 17609365913600) : sameRat22F ([AV.bool (AV.toBool (aget l 0)), AV.ints .u64 (AV.asInts (aget l 1)), AV.ints .u64 (AV.asInts (aget l 2))], [AV.bool (AV.toBool (aget l 0)), AV.ints .u64 (AV.asInts (aget l 1)), AV.ints .u64 (AV.asInts (aget l 2))]) = some true := by
  rw [sameRat22F, gu_pos ⟨h1, h2⟩]
  exact congrArg some (@decide_eq_true _ (Classical.propDecidable _) ⟨rfl, rfl, rfl⟩)
theorem num22_any {n : Int} (h : n = 0 ∨ n = 220) : num22F n = some n := gu_pos (by unfold I64; omega)
theorem err_if {α : Type} {c : Bool} {x y : α} : (if c = true then (x, (0 : Int)) else (y, 220)).2 = 0 ∨ (if c = true then (x, (0 : Int)) else (y, 220)).2 = 220 := by cases c <;> simp
theorem PredAsks_law {q : List AV} {t : Bool} (h : PredAsksF q = some t) : ∃ k : Nat, PredAsks_b0 q = some t := by
  obtain ⟨hw, rfl⟩ := gu_eq.1 h
  refine ⟨0, ?_⟩
  obtain ⟨A, hA⟩ : ∃ A, A = pn q 0 := ⟨_, rfl⟩
  obtain ⟨B, hB⟩ : ∃ B, B = pn q 1 := ⟨_, rfl⟩
  obtain ⟨C, hC⟩ : ∃ C, C = pn q 2 := ⟨_, rfl⟩
  obtain ⟨D, hD⟩ : ∃ D, D = pn q 3 := ⟨_, rfl⟩
  have pA : isPt A := hA ▸ isPt_pt (hw 0 (by omega)) (hw 1 (by omega))
  have pB : isPt B := hB ▸ isPt_pt (hw 2 (by omega)) (hw 3 (by omega))
  have pC : isPt C := hC ▸ isPt_pt (hw 4 (by omega)) (hw 5 (by omega))
  have pD : isPt D := hD ▸ isPt_pt (hw 6 (by omega)) (hw 7 (by omega))
  have eA : [AV.int .u64 (AV.toInt (aget q 0)), AV.int .u64 (AV.toInt (aget q 1))] = A := hA.symm
  have eB : [AV.int .u64 (AV.toInt (aget q 2)), AV.int .u64 (AV.toInt (aget q 3))] = B := hB.symm
  have eC : [AV.int .u64 (AV.toInt (aget q 4)), AV.int .u64 (AV.toInt (aget q 5))] = C := hC.symm
  have eD : [AV.int .u64 (AV.toInt (aget q 6)), AV.int .u64 (AV.toInt (aget q 7))] = D := hD.symm
  obtain ⟨r1, h1, n1⟩ : ∃ r, pdOrientF (A, B, C) = some r ∧ num22F r.2 = some r.2 := ⟨_, pdOrientF_ok pA pB pC, num22_any err_if⟩
  obtain ⟨r2, h2, n2, s2⟩ : ∃ r, pdArea2F (A, B, C) = some r ∧ num22F r.2 = some r.2 ∧ (aget r.1 1).asInts.length ≤ 17609365913600 ∧ (aget r.1 2).asInts.length ≤ 17609365913600 := by
    refine ⟨_, pdArea2F_ok pA pB pC, num22_any err_if, ?_⟩
    cases fA : fin A
    · exact ⟨Nat.zero_le _, Nat.zero_le _⟩
    cases fB : fin B
    · exact ⟨Nat.zero_le _, Nat.zero_le _⟩
    cases fC : fin C
    · exact ⟨Nat.zero_le _, Nat.zero_le _⟩
    obtain ⟨a1, a2⟩ := XY pA fA
    obtain ⟨b1, b2⟩ := XY pB fB
    obtain ⟨c1, c2⟩ := XY pC fC
    have hs : qsz (arP A B C) ≤ 20000 := qsz_ar a1 a2 b1 b2 c1 c2
    unfold qsz at hs
    have l1 := can_4096 (n := (arP A B C).num.natAbs) (by omega)
    have l2 := can_4096 (n := (arP A B C).den) (by omega)
    exact ⟨Nat.le_trans l1 (by omega), Nat.le_trans l2 (by omega)⟩
  obtain ⟨r3, h3, n3⟩ : ∃ r, pdInCircleF (A, B, C, D) = some r ∧ num22F r.2 = some r.2 := ⟨_, pdInCircleF_ok pA pB pC pD, num22_any err_if⟩
  obtain ⟨r4, h4, n4⟩ : ∃ r, pdBetweenF (A, B, C) = some r ∧ num22F r.2 = some r.2 := ⟨_, pdBetweenF_ok pA pB pC, num22_any err_if⟩
  obtain ⟨r5, h5, n5⟩ : ∃ r, pdNearerF (A, B, C, D) = some r ∧ num22F r.2 = some r.2 := ⟨_, pdNearerF_ok pA pB pC pD, num22_any err_if⟩
  obtain ⟨r6, h6, n6⟩ : ∃ r, pdOrdF (A, B) = some r ∧ num22F r.2 = some r.2 := ⟨_, pdOrdF_ok pA pB, num22_any err_if⟩
  rw [PredAsks_b0, eA, eB, eC, eD, h1, Option.bind_some, Option.bind_some, h2, Option.bind_some, Option.bind_some, bnot_eq, cond_f, n1, Option.bind_some, bnot_eq, cond_f, sameRat22_self s2.1 s2.2, Option.bind_some, Bool.not_true, cond_f, n2, Option.bind_some, bnot_eq, cond_f, h3, Option.bind_some, Option.bind_some, bnot_eq, cond_f, n3, Option.bind_some, bnot_eq, cond_f,
    h4, Option.bind_some, Option.bind_some, bnot_eq, cond_f, n4, Option.bind_some, bnot_eq, cond_f, h5, Option.bind_some, Option.bind_some, bnot_eq, cond_f, n5, Option.bind_some, bnot_eq, cond_f, h6, Option.bind_some, Option.bind_some, decide_eq_true rfl, cond_t, n6, Option.bind_some, decide_eq_true rfl]
theorem zAdd_ok : CtrOk Go.Proofs.Tryz.prog 43 (mkF [.st [.bool, .sl (.int .u64)], .st [.bool, .sl (.int .u64)]] [.st [.bool, .sl (.int .u64)]] zAddF) := by
  refine mkR_ok (c := bodyOf Go.Proofs.Tryz.f43) (tab := S.tab) (cts := [(70, mkF [.sl (.int .u64), .sl (.int .u64)] [.sl (.int .u64)] r3AddF), (71, mkF [.sl (.int .u64), .sl (.int .u64)] [.int .i64] r3CmpF), (72, mkF [.sl (.int .u64), .sl (.int .u64)] [.sl (.int .u64)] r3SubF)]) (res := [.cell 4 67]) tab_ok hm ⟨r3Add_ok, r3Cmp_ok, r3Sub_ok, trivial⟩ Go.Proofs.Tryz.func43 (by kernel_rfl) (by kernel_rfl) (by kernel_rfl) (by kernel_rfl) (by kernel_rfl) ?_
  rintro ⟨a, b⟩ t h
  obtain ⟨k, hk⟩ := zAdd_law h
  exact ⟨zAdd_h, 3000, k, (zAdd_ev k a b).trans hk⟩
theorem zSub_ok : CtrOk Go.Proofs.Tryz.prog 42 (mkF [.st [.bool, .sl (.int .u64)], .st [.bool, .sl (.int .u64)]] [.st [.bool, .sl (.int .u64)]] zSubF) := by
  refine mkR_ok (c := bodyOf Go.Proofs.Tryz.f42) (tab := S.tab) (cts := [(43, mkF [.st [.bool, .sl (.int .u64)], .st [.bool, .sl (.int .u64)]] [.st [.bool, .sl (.int .u64)]] zAddF)]) (res := [.cell 4 67]) tab_ok hm ⟨zAdd_ok, trivial⟩ Go.Proofs.Tryz.func42 (by kernel_rfl) (by kernel_rfl) (by kernel_rfl) (by kernel_rfl) (by kernel_rfl) ?_
  rintro ⟨a, b⟩ t h
  obtain ⟨k, hk⟩ := zSub_law h
  exact ⟨zSub_h, 3000, k, (zSub_ev k a b).trans hk⟩
theorem zMul_ok : CtrOk Go.Proofs.Tryz.prog 41 (mkF [.st [.bool, .sl (.int .u64)], .st [.bool, .sl (.int .u64)]] [.st [.bool, .sl (.int .u64)]] zMulF) := by
  refine mkR_ok (c := bodyOf Go.Proofs.Tryz.f41) (tab := S.tab) (cts := [(69, mkF [.sl (.int .u64), .sl (.int .u64)] [.sl (.int .u64)] r3MulF)]) (res := [.cell 4 67]) tab_ok hm ⟨r3Mul_ok, trivial⟩ Go.Proofs.Tryz.func41 (by kernel_rfl) (by kernel_rfl) (by kernel_rfl) (by kernel_rfl) (by kernel_rfl) ?_
  rintro ⟨a, b⟩ t h
  obtain ⟨k, hk⟩ := zMul_law h
  exact ⟨zMul_h, 3000, k, (zMul_ev k a b).trans hk⟩
theorem zSign_ok : CtrOk Go.Proofs.Tryz.prog 28 (mkF [.st [.bool, .sl (.int .u64)]] [.int .i64] zSignF) := by
  refine mkF_ok (c := bodyOf Go.Proofs.Tryz.f28) (tab := S.tab) (cts := [(59, mkF [.sl (.int .u64)] [.int .i64] r3BitsF)]) (res := [2]) tab_ok hm ⟨r3Bits_ok, trivial⟩ Go.Proofs.Tryz.func28 (by kernel_rfl) (by kernel_rfl) (by kernel_rfl) (by kernel_rfl) (by kernel_rfl) ?_
  rintro a t h
  obtain ⟨k, hk⟩ := zSign_law h
  exact ⟨zSign_h, 3000, k, (zSign_ev k a).trans hk⟩
theorem zfin_ok : CtrOk Go.Proofs.Tryz.prog 58 (mkF [.int .u64] [.bool] zfinF) := by
  refine mkF_ok (c := bodyOf Go.Proofs.Tryz.f58) (tab := S.tab) (cts := []) (res := [2]) tab_ok hm trivial Go.Proofs.Tryz.func58 (by kernel_rfl) (by kernel_rfl) (by kernel_rfl) (by kernel_rfl) (by kernel_rfl) ?_
  rintro a t h
  obtain ⟨k, hk⟩ := zfin_law h
  exact ⟨zfin_h, 3000, k, (zfin_ev k a).trans hk⟩
theorem zFin_ok : CtrOk Go.Proofs.Tryz.prog 27 (mkF [.sl (.st [.int .u64, .int .u64])] [.bool] fin22F) := by
  refine mkF_ok (c := bodyOf Go.Proofs.Tryz.f27) (tab := S.tab) (cts := [(58, mkF [.int .u64] [.bool] zfinF)]) (res := [2]) tab_ok hm ⟨zfin_ok, trivial⟩ Go.Proofs.Tryz.func27 (by kernel_rfl) (by kernel_rfl) (by kernel_rfl) (by kernel_rfl) (by kernel_rfl) ?_
  rintro a t h
  obtain ⟨k, hk⟩ := zFin_law h
  exact ⟨zFin_h, 3000, k, (zFin_ev k a).trans hk⟩
theorem zWhole_ok : CtrOk Go.Proofs.Tryz.prog 68 (mkF [.int .u64] [.st [.bool, .sl (.int .u64)]] zWholeF) := by
  refine mkR_ok (c := bodyOf Go.Proofs.Tryz.f68) (tab := S.tab) (cts := [(31, mkF [.sl (.int .u64), .int .i64] [.sl (.int .u64)] r3ShlF)]) (res := [.cell 2 67]) tab_ok hm ⟨r3Shl_ok, trivial⟩ Go.Proofs.Tryz.func68 (by kernel_rfl) (by kernel_rfl) (by kernel_rfl) (by kernel_rfl) (by kernel_rfl) ?_
  rintro a t h
  obtain ⟨k, hk⟩ := zWhole_law h
  exact ⟨zWhole_h, 3000, k, (zWhole_ev k a).trans hk⟩
theorem zAt_ok : CtrOk Go.Proofs.Tryz.prog 38 (mkF [.st [.int .u64, .int .u64]] [.st [.bool, .sl (.int .u64), .bool, .sl (.int .u64)]] zAtF) := by
  refine mkR_ok (c := bodyOf Go.Proofs.Tryz.f38) (tab := S.tab) (cts := [(68, mkF [.int .u64] [.st [.bool, .sl (.int .u64)]] zWholeF)]) (res := [.cell 2 81]) tab_ok hm ⟨zWhole_ok, trivial⟩ Go.Proofs.Tryz.func38 (by kernel_rfl) (by kernel_rfl) (by kernel_rfl) (by kernel_rfl) (by kernel_rfl) ?_
  rintro a t h
  obtain ⟨k, hk⟩ := zAt_law h
  exact ⟨zAt_h, 3000, k, (zAt_ev k a).trans hk⟩
theorem zMinus_ok : CtrOk Go.Proofs.Tryz.prog 39 (mkF [.st [.bool, .sl (.int .u64), .bool, .sl (.int .u64)], .st [.bool, .sl (.int .u64), .bool, .sl (.int .u64)]] [.st [.bool, .sl (.int .u64), .bool, .sl (.int .u64)]] zMinusF) := by
  refine mkR_ok (c := bodyOf Go.Proofs.Tryz.f39) (tab := S.tab) (cts := [(42, mkF [.st [.bool, .sl (.int .u64)], .st [.bool, .sl (.int .u64)]] [.st [.bool, .sl (.int .u64)]] zSubF)]) (res := [.cell 4 81]) tab_ok hm ⟨zSub_ok, trivial⟩ Go.Proofs.Tryz.func39 (by kernel_rfl) (by kernel_rfl) (by kernel_rfl) (by kernel_rfl) (by kernel_rfl) ?_
  rintro ⟨a, b⟩ t h
  obtain ⟨k, hk⟩ := zMinus_law h
  exact ⟨zMinus_h, 3000, k, (zMinus_ev k a b).trans hk⟩
theorem zCross_ok : CtrOk Go.Proofs.Tryz.prog 60 (mkF [.st [.bool, .sl (.int .u64), .bool, .sl (.int .u64)], .st [.bool, .sl (.int .u64), .bool, .sl (.int .u64)]] [.st [.bool, .sl (.int .u64)]] zCrossF) := by
  refine mkR_ok (c := bodyOf Go.Proofs.Tryz.f60) (tab := S.tab) (cts := [(42, mkF [.st [.bool, .sl (.int .u64)], .st [.bool, .sl (.int .u64)]] [.st [.bool, .sl (.int .u64)]] zSubF), (41, mkF [.st [.bool, .sl (.int .u64)], .st [.bool, .sl (.int .u64)]] [.st [.bool, .sl (.int .u64)]] zMulF)]) (res := [.cell 4 67]) tab_ok hm ⟨zSub_ok, zMul_ok, trivial⟩ Go.Proofs.Tryz.func60 (by kernel_rfl) (by kernel_rfl) (by kernel_rfl) (by kernel_rfl) (by kernel_rfl) ?_
  rintro ⟨a, b⟩ t h
  obtain ⟨k, hk⟩ := zCross_law h
  exact ⟨zCross_h, 3000, k, (zCross_ev k a b).trans hk⟩
theorem zTurn_ok : CtrOk Go.Proofs.Tryz.prog 29 (mkF [.st [.int .u64, .int .u64], .st [.int .u64, .int .u64], .st [.int .u64, .int .u64]] [.st [.bool, .sl (.int .u64)]] zTurnF) := by
  refine mkR_ok (c := bodyOf Go.Proofs.Tryz.f29) (tab := S.tab) (cts := [(38, mkF [.st [.int .u64, .int .u64]] [.st [.bool, .sl (.int .u64), .bool, .sl (.int .u64)]] zAtF), (39, mkF [.st [.bool, .sl (.int .u64), .bool, .sl (.int .u64)], .st [.bool, .sl (.int .u64), .bool, .sl (.int .u64)]] [.st [.bool, .sl (.int .u64), .bool, .sl (.int .u64)]] zMinusF), (60, mkF [.st [.bool, .sl (.int .u64), .bool, .sl (.int .u64)], .st [.bool, .sl (.int .u64), .bool, .sl (.int .u64)]] [.st [.bool, .sl (.int .u64)]] zCrossF)]) (res := [.cell 6 67]) tab_ok hm ⟨zAt_ok, zMinus_ok, zCross_ok, trivial⟩ Go.Proofs.Tryz.func29 (by kernel_rfl) (by kernel_rfl) (by kernel_rfl) (by kernel_rfl) (by kernel_rfl) ?_
  rintro ⟨a, b, c⟩ t h
  obtain ⟨k, hk⟩ := zTurn_law h
  exact ⟨zTurn_h, 3000, k, (zTurn_ev k a b c).trans hk⟩
theorem zOrient_ok : CtrOk Go.Proofs.Tryz.prog 6 (mkF [.st [.int .u64, .int .u64], .st [.int .u64, .int .u64], .st [.int .u64, .int .u64]] [.int .i64, .int .i64] pdOrientF) := by
  refine mkF_ok (c := bodyOf Go.Proofs.Tryz.f6) (tab := S.tab) (cts := [(27, mkF [.sl (.st [.int .u64, .int .u64])] [.bool] fin22F), (29, mkF [.st [.int .u64, .int .u64], .st [.int .u64, .int .u64], .st [.int .u64, .int .u64]] [.st [.bool, .sl (.int .u64)]] zTurnF), (28, mkF [.st [.bool, .sl (.int .u64)]] [.int .i64] zSignF)]) (res := [6, 7]) tab_ok hm ⟨zFin_ok, zTurn_ok, zSign_ok, trivial⟩ Go.Proofs.Tryz.func6 (by kernel_rfl) (by kernel_rfl) (by kernel_rfl) (by kernel_rfl) (by kernel_rfl) ?_
  rintro ⟨a, b, c⟩ t h
  obtain ⟨k, hk⟩ := zOrient_law h
  exact ⟨zOrient_h, 3000, k, (zOrient_ev k a b c).trans hk⟩
theorem zArea2_ok : CtrOk Go.Proofs.Tryz.prog 8 (mkF [.st [.int .u64, .int .u64], .st [.int .u64, .int .u64], .st [.int .u64, .int .u64]] [.st [.bool, .sl (.int .u64), .sl (.int .u64)], .int .i64] pdArea2F) := by
  refine mkL_ok (c := bodyOf Go.Proofs.Tryz.f8) (tab := S.tab) (cts := [(27, mkF [.sl (.st [.int .u64, .int .u64])] [.bool] fin22F), (29, mkF [.st [.int .u64, .int .u64], .st [.int .u64, .int .u64], .st [.int .u64, .int .u64]] [.st [.bool, .sl (.int .u64)]] zTurnF), (30, mkF [.sl (.int .u64), .sl (.int .u64)] [.sl (.int .u64), .sl (.int .u64)] r3LowestF), (31, mkF [.sl (.int .u64), .int .i64] [.sl (.int .u64)] r3ShlF)]) (res := [.cell 6 34, .tmp 7]) tab_ok hm ⟨zFin_ok, zTurn_ok, r3Lowest_ok, r3Shl_ok, trivial⟩ Go.Proofs.Tryz.func8 (by kernel_rfl) (by kernel_rfl) (by kernel_rfl) (by kernel_rfl) (by kernel_rfl) ?_
  rintro ⟨a, b, c⟩ t h
  obtain ⟨k, hk⟩ := zArea2_law h
  exact ⟨zArea2_h, 3000, k, (zArea2_ev k a b c).trans hk⟩
theorem zSquare_ok : CtrOk Go.Proofs.Tryz.prog 40 (mkF [.st [.bool, .sl (.int .u64), .bool, .sl (.int .u64)]] [.st [.bool, .sl (.int .u64)]] zSquareF) := by
  refine mkR_ok (c := bodyOf Go.Proofs.Tryz.f40) (tab := S.tab) (cts := [(43, mkF [.st [.bool, .sl (.int .u64)], .st [.bool, .sl (.int .u64)]] [.st [.bool, .sl (.int .u64)]] zAddF), (41, mkF [.st [.bool, .sl (.int .u64)], .st [.bool, .sl (.int .u64)]] [.st [.bool, .sl (.int .u64)]] zMulF)]) (res := [.cell 2 67]) tab_ok hm ⟨zAdd_ok, zMul_ok, trivial⟩ Go.Proofs.Tryz.func40 (by kernel_rfl) (by kernel_rfl) (by kernel_rfl) (by kernel_rfl) (by kernel_rfl) ?_
  rintro a t h
  obtain ⟨k, hk⟩ := zSquare_law h
  exact ⟨zSquare_h, 3000, k, (zSquare_ev k a).trans hk⟩
theorem zInCircle_ok : CtrOk Go.Proofs.Tryz.prog 12 (mkF [.st [.int .u64, .int .u64], .st [.int .u64, .int .u64], .st [.int .u64, .int .u64], .st [.int .u64, .int .u64]] [.int .i64, .int .i64] pdInCircleF) := by
  refine mkF_ok (c := bodyOf Go.Proofs.Tryz.f12) (tab := S.tab) (cts := [(27, mkF [.sl (.st [.int .u64, .int .u64])] [.bool] fin22F), (38, mkF [.st [.int .u64, .int .u64]] [.st [.bool, .sl (.int .u64), .bool, .sl (.int .u64)]] zAtF), (39, mkF [.st [.bool, .sl (.int .u64), .bool, .sl (.int .u64)], .st [.bool, .sl (.int .u64), .bool, .sl (.int .u64)]] [.st [.bool, .sl (.int .u64), .bool, .sl (.int .u64)]] zMinusF), (40, mkF [.st [.bool, .sl (.int .u64), .bool, .sl (.int .u64)]] [.st [.bool, .sl (.int .u64)]] zSquareF), (41, mkF [.st [.bool, .sl (.int .u64)], .st [.bool, .sl (.int .u64)]] [.st [.bool, .sl (.int .u64)]] zMulF), (42, mkF [.st [.bool, .sl (.int .u64)], .st [.bool, .sl (.int .u64)]] [.st [.bool, .sl (.int .u64)]] zSubF), (43, mkF [.st [.bool, .sl (.int .u64)], .st [.bool, .sl (.int .u64)]] [.st [.bool, .sl (.int .u64)]] zAddF), (28, mkF [.st [.bool, .sl (.int .u64)]] [.int .i64] zSignF)]) (res := [8, 9]) tab_ok hm ⟨zFin_ok, zAt_ok, zMinus_ok, zSquare_ok, zMul_ok, zSub_ok, zAdd_ok, zSign_ok, trivial⟩ Go.Proofs.Tryz.func12 (by kernel_rfl) (by kernel_rfl) (by kernel_rfl) (by kernel_rfl) (by kernel_rfl) ?_
  rintro ⟨a, b, c, d⟩ t h
  obtain ⟨k, hk⟩ := zInCircle_law h
  exact ⟨zInCircle_h, 3000, k, (zInCircle_ev k a b c d).trans hk⟩
theorem zInside_ok : CtrOk Go.Proofs.Tryz.prog 45 (mkF [.st [.bool, .sl (.int .u64)], .st [.bool, .sl (.int .u64)], .st [.bool, .sl (.int .u64)]] [.bool] zInsideF) := by
  refine mkF_ok (c := bodyOf Go.Proofs.Tryz.f45) (tab := S.tab) (cts := [(28, mkF [.st [.bool, .sl (.int .u64)]] [.int .i64] zSignF), (42, mkF [.st [.bool, .sl (.int .u64)], .st [.bool, .sl (.int .u64)]] [.st [.bool, .sl (.int .u64)]] zSubF)]) (res := [6]) tab_ok hm ⟨zSign_ok, zSub_ok, trivial⟩ Go.Proofs.Tryz.func45 (by kernel_rfl) (by kernel_rfl) (by kernel_rfl) (by kernel_rfl) (by kernel_rfl) ?_
  rintro ⟨a, b, c⟩ t h
  obtain ⟨k, hk⟩ := zInside_law h
  exact ⟨zInside_h, 3000, k, (zInside_ev k a b c).trans hk⟩
theorem zBetween_ok : CtrOk Go.Proofs.Tryz.prog 14 (mkF [.st [.int .u64, .int .u64], .st [.int .u64, .int .u64], .st [.int .u64, .int .u64]] [.bool, .int .i64] pdBetweenF) := by
  refine mkF_ok (c := bodyOf Go.Proofs.Tryz.f14) (tab := S.tab) (cts := [(27, mkF [.sl (.st [.int .u64, .int .u64])] [.bool] fin22F), (38, mkF [.st [.int .u64, .int .u64]] [.st [.bool, .sl (.int .u64), .bool, .sl (.int .u64)]] zAtF), (29, mkF [.st [.int .u64, .int .u64], .st [.int .u64, .int .u64], .st [.int .u64, .int .u64]] [.st [.bool, .sl (.int .u64)]] zTurnF), (28, mkF [.st [.bool, .sl (.int .u64)]] [.int .i64] zSignF), (45, mkF [.st [.bool, .sl (.int .u64)], .st [.bool, .sl (.int .u64)], .st [.bool, .sl (.int .u64)]] [.bool] zInsideF)]) (res := [6, 7]) tab_ok hm ⟨zFin_ok, zAt_ok, zTurn_ok, zSign_ok, zInside_ok, trivial⟩ Go.Proofs.Tryz.func14 (by kernel_rfl) (by kernel_rfl) (by kernel_rfl) (by kernel_rfl) (by kernel_rfl) ?_
  rintro ⟨a, b, c⟩ t h
  obtain ⟨k, hk⟩ := zBetween_law h
  exact ⟨zBetween_h, 3000, k, (zBetween_ev k a b c).trans hk⟩
theorem zNearer_ok : CtrOk Go.Proofs.Tryz.prog 16 (mkF [.st [.int .u64, .int .u64], .st [.int .u64, .int .u64], .st [.int .u64, .int .u64], .st [.int .u64, .int .u64]] [.int .i64, .int .i64] pdNearerF) := by
  refine mkF_ok (c := bodyOf Go.Proofs.Tryz.f16) (tab := S.tab) (cts := [(27, mkF [.sl (.st [.int .u64, .int .u64])] [.bool] fin22F), (38, mkF [.st [.int .u64, .int .u64]] [.st [.bool, .sl (.int .u64), .bool, .sl (.int .u64)]] zAtF), (39, mkF [.st [.bool, .sl (.int .u64), .bool, .sl (.int .u64)], .st [.bool, .sl (.int .u64), .bool, .sl (.int .u64)]] [.st [.bool, .sl (.int .u64), .bool, .sl (.int .u64)]] zMinusF), (40, mkF [.st [.bool, .sl (.int .u64), .bool, .sl (.int .u64)]] [.st [.bool, .sl (.int .u64)]] zSquareF), (42, mkF [.st [.bool, .sl (.int .u64)], .st [.bool, .sl (.int .u64)]] [.st [.bool, .sl (.int .u64)]] zSubF), (28, mkF [.st [.bool, .sl (.int .u64)]] [.int .i64] zSignF)]) (res := [8, 9]) tab_ok hm ⟨zFin_ok, zAt_ok, zMinus_ok, zSquare_ok, zSub_ok, zSign_ok, trivial⟩ Go.Proofs.Tryz.func16 (by kernel_rfl) (by kernel_rfl) (by kernel_rfl) (by kernel_rfl) (by kernel_rfl) ?_
  rintro ⟨a, b, c, d⟩ t h
  obtain ⟨k, hk⟩ := zNearer_law h
  exact ⟨zNearer_h, 3000, k, (zNearer_ev k a b c d).trans hk⟩
theorem zCompare_ok : CtrOk Go.Proofs.Tryz.prog 47 (mkF [.st [.int .u64, .int .u64], .st [.int .u64, .int .u64]] [.int .i64] zCompareF) := by
  refine mkF_ok (c := bodyOf Go.Proofs.Tryz.f47) (tab := S.tab) (cts := [(38, mkF [.st [.int .u64, .int .u64]] [.st [.bool, .sl (.int .u64), .bool, .sl (.int .u64)]] zAtF), (39, mkF [.st [.bool, .sl (.int .u64), .bool, .sl (.int .u64)], .st [.bool, .sl (.int .u64), .bool, .sl (.int .u64)]] [.st [.bool, .sl (.int .u64), .bool, .sl (.int .u64)]] zMinusF), (28, mkF [.st [.bool, .sl (.int .u64)]] [.int .i64] zSignF)]) (res := [4]) tab_ok hm ⟨zAt_ok, zMinus_ok, zSign_ok, trivial⟩ Go.Proofs.Tryz.func47 (by kernel_rfl) (by kernel_rfl) (by kernel_rfl) (by kernel_rfl) (by kernel_rfl) ?_
  rintro ⟨a, b⟩ t h
  obtain ⟨k, hk⟩ := zCompare_law h
  exact ⟨zCompare_h, 3000, k, (zCompare_ev k a b).trans hk⟩
theorem zOrd_ok : CtrOk Go.Proofs.Tryz.prog 18 (mkF [.st [.int .u64, .int .u64], .st [.int .u64, .int .u64]] [.int .i64, .int .i64] pdOrdF) := by
  refine mkF_ok (c := bodyOf Go.Proofs.Tryz.f18) (tab := S.tab) (cts := [(27, mkF [.sl (.st [.int .u64, .int .u64])] [.bool] fin22F), (47, mkF [.st [.int .u64, .int .u64], .st [.int .u64, .int .u64]] [.int .i64] zCompareF)]) (res := [4, 5]) tab_ok hm ⟨zFin_ok, zCompare_ok, trivial⟩ Go.Proofs.Tryz.func18 (by kernel_rfl) (by kernel_rfl) (by kernel_rfl) (by kernel_rfl) (by kernel_rfl) ?_
  rintro ⟨a, b⟩ t h
  obtain ⟨k, hk⟩ := zOrd_law h
  exact ⟨zOrd_h, 3000, k, (zOrd_ev k a b).trans hk⟩
theorem same22_ok : CtrOk Go.Proofs.Tryz.prog 32 (mkF [.sl (.int .u64), .sl (.int .u64)] [.bool] sameF) := by
  refine mkF_ok (c := bodyOf Go.Proofs.Tryz.f32) (tab := S.tab) (cts := []) (res := [4]) tab_ok hm trivial Go.Proofs.Tryz.func32 (by kernel_rfl) (by kernel_rfl) (by kernel_rfl) (by kernel_rfl) (by kernel_rfl) ?_
  rintro ⟨a, b⟩ t h
  obtain ⟨k, hk⟩ := same22_law h
  exact ⟨same22_h, 3000, k, (same22_ev k a b).trans hk⟩
theorem sameRat22_ok : CtrOk Go.Proofs.Tryz.prog 10 (mkF [.st [.bool, .sl (.int .u64), .sl (.int .u64)], .st [.bool, .sl (.int .u64), .sl (.int .u64)]] [.bool] sameRat22F) := by
  refine mkF_ok (c := bodyOf Go.Proofs.Tryz.f10) (tab := S.tab) (cts := [(32, mkF [.sl (.int .u64), .sl (.int .u64)] [.bool] sameF)]) (res := [4]) tab_ok hm ⟨same22_ok, trivial⟩ Go.Proofs.Tryz.func10 (by kernel_rfl) (by kernel_rfl) (by kernel_rfl) (by kernel_rfl) (by kernel_rfl) ?_
  rintro ⟨a, b⟩ t h
  obtain ⟨k, hk⟩ := sameRat22_law h
  exact ⟨sameRat22_h, 3000, k, (sameRat22_ev k a b).trans hk⟩
theorem PredAsks_ok : CtrOk Go.Proofs.Tryz.prog 3 (mkF [.st [.int .u64, .int .u64, .int .u64, .int .u64, .int .u64, .int .u64, .int .u64, .int .u64]] [.bool] PredAsksF) := by
  refine mkF_ok (c := bodyOf Go.Proofs.Tryz.f3) (tab := S.tab) (cts := [(5, mkF [.st [.int .u64, .int .u64], .st [.int .u64, .int .u64], .st [.int .u64, .int .u64]] [.int .i64, .int .i64] pdOrientF), (6, mkF [.st [.int .u64, .int .u64], .st [.int .u64, .int .u64], .st [.int .u64, .int .u64]] [.int .i64, .int .i64] pdOrientF), (7, mkF [.st [.int .u64, .int .u64], .st [.int .u64, .int .u64], .st [.int .u64, .int .u64]] [.st [.bool, .sl (.int .u64), .sl (.int .u64)], .int .i64] pdArea2F), (8, mkF [.st [.int .u64, .int .u64], .st [.int .u64, .int .u64], .st [.int .u64, .int .u64]] [.st [.bool, .sl (.int .u64), .sl (.int .u64)], .int .i64] pdArea2F), (10, mkF [.st [.bool, .sl (.int .u64), .sl (.int .u64)], .st [.bool, .sl (.int .u64), .sl (.int .u64)]] [.bool] sameRat22F), (9, mkF [.int .i64] [.int .i64] num22F), (11, mkF [.st [.int .u64, .int .u64], .st [.int .u64, .int .u64], .st [.int .u64, .int .u64], .st [.int .u64, .int .u64]] [.int .i64, .int .i64] pdInCircleF), (12, mkF [.st [.int .u64, .int .u64], .st [.int .u64, .int .u64], .st [.int .u64, .int .u64], .st [.int .u64, .int .u64]] [.int .i64, .int .i64] pdInCircleF), (13, mkF [.st [.int .u64, .int .u64], .st [.int .u64, .int .u64], .st [.int .u64, .int .u64]] [.bool, .int .i64] pdBetweenF), (14, mkF [.st [.int .u64, .int .u64], .st [.int .u64, .int .u64], .st [.int .u64, .int .u64]] [.bool, .int .i64] pdBetweenF), (15, mkF [.st [.int .u64, .int .u64], .st [.int .u64, .int .u64], .st [.int .u64, .int .u64], .st [.int .u64, .int .u64]] [.int .i64, .int .i64] pdNearerF), (16, mkF [.st [.int .u64, .int .u64], .st [.int .u64, .int .u64], .st [.int .u64, .int .u64], .st [.int .u64, .int .u64]] [.int .i64, .int .i64] pdNearerF), (17, mkF [.st [.int .u64, .int .u64], .st [.int .u64, .int .u64]] [.int .i64, .int .i64] pdOrdF), (18, mkF [.st [.int .u64, .int .u64], .st [.int .u64, .int .u64]] [.int .i64, .int .i64] pdOrdF)]) (res := [2]) tab_ok hm ⟨pdOrient_ok, zOrient_ok, pdArea2_ok, zArea2_ok, sameRat22_ok, num22_ok, pdInCircle_ok, zInCircle_ok, pdBetween_ok, zBetween_ok, pdNearer_ok, zNearer_ok, pdOrd_ok, zOrd_ok, trivial⟩ Go.Proofs.Tryz.func3 (by kernel_rfl) (by kernel_rfl) (by kernel_rfl) (by kernel_rfl) (by kernel_rfl) ?_
  rintro a t h
  obtain ⟨k, hk⟩ := PredAsks_law h
  exact ⟨PredAsks_h, 3000, k, (PredAsks_ev k a).trans hk⟩
end Go.RX.S
