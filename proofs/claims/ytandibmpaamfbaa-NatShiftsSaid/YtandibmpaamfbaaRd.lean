/- The operations that make no memory, one after the other. -/
import Derived.Test.YtandibmpaamfbaaRc
import Derived.Laws.Small
set_option linter.unusedVariables false
set_option linter.unusedSimpArgs false
namespace Go.RX

def Res (P : Program) (W : World) (ok : Nat → Prop) (R : Nat → Option Loc) (m : Sem Value) (v : AV) : Prop := ∃ u, m.run P W = .ok u W ∧ Rel W ok R v u

section
variable {P : Program} {tab : Tab} {W : World} {ok : Nat → Prop} {R : Nat → Option Loc}

theorem res_int {k : IntKind} {n : Int} {m : Sem Value} (h : m.run P W = .ok (.int k n) W) : Res P W ok R m (.int k n) := ⟨_, h, by rw [rel_int]⟩
theorem res_bool {b : Bool} {m : Sem Value} (h : m.run P W = .ok (.bool b) W) : Res P W ok R m (.bool b) := ⟨_, h, by rw [rel_bool]⟩
theorem res_str {s : ByteArray} {m : Sem Value} (h : m.run P W = .ok (.string s) W) : Res P W ok R m (.str s) := ⟨_, h, by rw [rel_str]⟩

theorem binInt_ok {op : BinOp} {t : TypeId} {k : IntKind} {a b : Int} {v : AV} (h : (match op with
      | .add => some (true, .int k (addI k a b))
      | .sub => some (true, .int k (subI k a b))
      | .mul => some (true, .int k (mulI k a b))
      | .quo => some (b != 0, .int k (divI k a b))
      | .rem => some (b != 0, .int k (remI a b))
      | .and => some (true, .int k (andI k a b))
      | .or => some (true, .int k (orI k a b))
      | .xor => some (true, .int k (xorI k a b))
      | .andNot => some (true, .int k (andNotI k a b))
      | .eql => some (true, .bool (a == b))
      | .neq => some (true, .bool (a != b))
      | .lss => some (true, .bool (decide (a < b)))
      | .leq => some (true, .bool (decide (a ≤ b)))
      | .gtr => some (true, .bool (decide (a > b)))
      | .geq => some (true, .bool (decide (a ≥ b)))
      | _ => none) = some (true, v)) : Res P W ok R (binOp op t (.int k a) (.int k b)) v := by
  cases op <;> simp only [Option.some.injEq, Prod.mk.injEq, true_and, bne_iff_ne, ne_eq, reduceCtorEq] at h
  case quo =>
    obtain ⟨hb, rfl⟩ := h
    exact res_int (by simp [binOp, Op.intDiv, hb, divI])
  case rem =>
    obtain ⟨hb, rfl⟩ := h
    exact res_int (by simp [binOp, Op.intDiv, hb, remI])
  case add => subst h; exact res_int (by simp [binOp, Op.intArith, addI])
  case sub => subst h; exact res_int (by simp [binOp, Op.intArith, subI])
  case mul => subst h; exact res_int (by simp [binOp, Op.intArith, mulI])
  case and => subst h; exact res_int (by simp [binOp, Op.intBits, andI])
  case or => subst h; exact res_int (by simp [binOp, Op.intBits, orI])
  case xor => subst h; exact res_int (by simp [binOp, Op.intBits, xorI])
  case andNot => subst h; exact res_int (by simp [binOp, Op.intBits, andNotI])
  all_goals
    subst h
    exact res_bool (by simp [binOp, Op.intCmp])

theorem eqGuard_int (op : BinOp) (t : TypeId) (X' Y' : Operand) (k k' : IntKind) (a b : Int) : (eqGuard op t X' Y' (.int k a) (.int k' b)).run P W = .ok () W := by
  unfold eqGuard
  cases op <;> simp
theorem eqGuard_bool (op : BinOp) (t : TypeId) (X' Y' : Operand) (a b : Bool) : (eqGuard op t X' Y' (.bool a) (.bool b)).run P W = .ok () W := by
  unfold eqGuard
  cases op <;> simp
theorem eqGuard_str (op : BinOp) (t : TypeId) (X' Y' : Operand) (a b : ByteArray) : (eqGuard op t X' Y' (.string a) (.string b)).run P W = .ok () W := by
  unfold eqGuard
  cases op <;> simp
theorem Res.after {m : Sem Unit} {n : Sem Value} {v : AV} (hm : m.run P W = .ok () W) (h : Res P W ok R n v) : Res P W ok R (do m; n) v := by
  obtain ⟨u, hu, hr⟩ := h
  exact ⟨u, by simp [hm, hu], hr⟩

theorem max64 : IntKind.i64.max = 9223372036854775807 := by decide

theorem binStr_ok {op : BinOp} {t : TypeId} {a b : ByteArray} {v : AV} (h : (match op with
    | .add => some (decide (a.size + b.size ≤ 9223372036854775807), AV.str (a ++ b))
    | .eql => some (true, .bool (a.toList == b.toList))
    | .neq => some (true, .bool (a.toList != b.toList))
    | .lss => some (true, .bool (Op.bytesLess a.toList b.toList))
    | .leq => some (true, .bool (Op.bytesLess a.toList b.toList || a.toList == b.toList))
    | .gtr => some (true, .bool !(Op.bytesLess a.toList b.toList || a.toList == b.toList))
    | .geq => some (true, .bool !(Op.bytesLess a.toList b.toList))
    | _ => none) = some (true, v)) : Res P W ok R (binOp op t (.string a) (.string b)) v := by
  cases op <;> simp only [Option.some.injEq, Prod.mk.injEq, true_and, reduceCtorEq] at h
  case add =>
    obtain ⟨hb, rfl⟩ := h
    have hb' : a.size + b.size ≤ 9223372036854775807 := of_decide_eq_true hb
    refine res_str ?_
    simp only [binOp, Op.stringOp]
    rw [if_neg (by rw [max64]; omega)]
    rfl
  all_goals
    subst h
    exact res_bool (by simp only [binOp, Op.stringOp]; rfl)

theorem pvBin_ok (hT : TabOk P tab) {op : BinOp} {t : TypeId} {x y v : AV} {X' Y' : Operand} {u1 u2 : Value} (h : pvBin tab op t x y = some (true, v)) (h1 : Rel W ok R x u1) (h2 : Rel W ok R y u2) :
    Res P W ok R (do eqGuard op t X' Y' u1 u2; binOp op t u1 u2) v := by
  unfold pvBin at h
  split at h
  · rename_i k a k' b
    rw [rel_int] at h1 h2
    subst h1 h2
    refine Res.after (eqGuard_int ..) ?_
    split at h
    · simp only [Option.some.injEq, Prod.mk.injEq, decide_eq_true_eq] at h
      obtain ⟨hb, rfl⟩ := h
      exact res_int (by simp [binOp, Op.shift, Int.not_lt.2 hb, shlI])
    · simp only [Option.some.injEq, Prod.mk.injEq, decide_eq_true_eq] at h
      obtain ⟨hb, rfl⟩ := h
      exact res_int (by simp [binOp, Op.shift, Int.not_lt.2 hb, shrI])
    · cases hk : ksame k k'
      · simp [hk] at h
      · obtain rfl := ksame_eq hk
        rw [hk, cond_true] at h
        exact binInt_ok h
  · rename_i a b
    rw [rel_bool] at h1 h2
    subst h1 h2
    refine Res.after (eqGuard_bool ..) ?_
    split at h
    · rename_i ht
      obtain ⟨z, hz⟩ := hT _ _ ht
      have hd : P.underlying t = some .bool := hz.desc
      split at h
      · simp only [Option.some.injEq, Prod.mk.injEq, true_and] at h
        subst h
        exact res_bool (run_eql_bool _ _ _ _ hd)
      · simp only [Option.some.injEq, Prod.mk.injEq, true_and] at h
        subst h
        exact res_bool (run_neq_bool _ _ _ _ hd)
      · simp at h
    · simp at h
  · rename_i a b
    rw [rel_str] at h1 h2
    subst h1 h2
    exact Res.after (eqGuard_str ..) (binStr_ok h)
  · simp at h

theorem pvUn_ok {op : UnOp} {x v : AV} {u : Value} (h : pvUn op x = some v) (h1 : Rel W ok R x u) : Res P W ok R (Op.unary op u) v := by
  unfold pvUn at h
  split at h
  · rw [rel_int] at h1; subst h1
    simp only [Option.some.injEq] at h; subst h
    exact res_int (by simp [Op.unary, Op.intArith, subI])
  · rw [rel_int] at h1; subst h1
    simp only [Option.some.injEq] at h; subst h
    exact res_int (by simp [Op.unary, Op.intBits, notI, xorI])
  · rw [rel_bool] at h1; subst h1
    simp only [Option.some.injEq] at h; subst h
    exact res_bool (by simp [Op.unary])
  · simp at h

theorem TyOk.und (hT : TabOk P tab) {t : TypeId} {d : TyD} (h : tab t = some d) : ∃ dsc, P.underlying t = some dsc := by
  obtain ⟨z, hz⟩ := hT _ _ h
  have hd := hz.desc
  cases ht : d.tk <;> rw [ht] at hd <;> simp only [TK.desc] at hd
  all_goals first
    | exact ⟨_, hd⟩
    | (obtain ⟨_, hd, _⟩ := hd; exact ⟨_, hd⟩)
    | (obtain ⟨_, hd⟩ := hd; exact ⟨_, hd⟩)
    | (obtain ⟨_, _, _, hd⟩ := hd; exact ⟨_, hd⟩)

theorem pvConv_ok (hT : TabOk P tab) {src dst : TypeId} {x v : AV} {u : Value} (h : pvConv tab src dst x = some v) (h1 : Rel W ok R x u) : Res P W ok R (convert src dst u) v := by
  unfold pvConv at h
  split at h
  · rename_i d0 k _ _ _ _ k' n hs hd
    rw [rel_int] at h1; subst h1
    simp only [Option.some.injEq] at h; subst h
    obtain ⟨ds, hds⟩ := TyOk.und hT hs
    obtain ⟨z, hz⟩ := hT _ _ hd
    have hdd : P.underlying dst = some (.int k) := hz.desc
    exact res_int (by simp [convert, run_underlying hds, run_underlying hdd, Conv.intToInt, cvI])
  · rename_i d0 _ _ _ _ s hs hd
    rw [rel_str] at h1; subst h1
    simp only [Option.some.injEq] at h; subst h
    obtain ⟨ds, hds⟩ := TyOk.und hT hs
    obtain ⟨z, hz⟩ := hT _ _ hd
    have hdd : P.underlying dst = some .string := hz.desc
    exact res_str (by simp [convert, run_underlying hds, run_underlying hdd])
  · simp at h

theorem All2_at {α β : Type} {p : α → β → Prop} : ∀ {l : List α} {bs : List β}, All2 p l bs → ∀ i, (h : i < l.length) → ∃ b, bs[i]? = some b ∧ p l[i] b
  | a :: as, _, ⟨b, bs', rfl, hp, hr⟩, 0, _ => ⟨b, rfl, hp⟩
  | a :: as, _, ⟨b, bs', rfl, hp, hr⟩, i + 1, h => by
    obtain ⟨c, hc, hpc⟩ := All2_at hr i (by simpa using h)
    exact ⟨c, by simpa using hc, by simpa using hpc⟩
theorem All2_length {α β : Type} {p : α → β → Prop} : ∀ {l : List α} {bs : List β}, All2 p l bs → bs.length = l.length
  | [], _, h => by simp only [All2] at h; simp [h]
  | a :: as, _, ⟨b, bs', rfl, hp, hr⟩ => by simp [All2_length hr]

theorem pvExtract_ok {l : List AV} {i : Nat} {u : Value} (h : i < l.length) (h1 : Rel W ok R (.tup l) u) : Res P W ok R (Instr.extract u i) (aget l i) := by
  rw [rel_tup] at h1
  obtain ⟨cs, rfl, ha⟩ := h1
  obtain ⟨b, hb, hr⟩ := All2_at ha i h
  rw [Array.getElem?_toList] at hb
  refine ⟨b, by simp [Instr.extract, hb], Rel_of_Rel0 (by rwa [aget_eq l i h])⟩

theorem blt_lt {a b : Nat} (h : Nat.blt a b = true) : a < b := Nat.le_of_ble_eq_true h

theorem part_ok (hT : TabOk P tab) {ft off : Nat} {d : TyD} (hd : tab ft = some d) {l : List AV} {cs : Array Value} (hC : C W ok R 1 l cs.toList) {v : AV}
    (h : cond d.tk.isAgg (cond (Nat.ble (off + d.sz) l.length) (some (AV.agg ((l.drop off).take d.sz))) none) (cond (Nat.blt off l.length && !(aget l off).isAgg) (some (aget l off)) none) = some v) :
    Res P W ok R (part ft cs off) v := by
  obtain ⟨z, hz⟩ := hT _ _ hd
  have hlen := C_length 1 l _ hC
  cases ha : d.tk.isAgg
  · simp only [ha, cond_false] at h
    cases hlt : (Nat.blt off l.length && !(aget l off).isAgg)
    · simp [hlt] at h
    · simp only [hlt, cond_true, Option.some.injEq] at h
      subst h
      rw [Bool.and_eq_true, Bool.not_eq_true'] at hlt
      have hlt' : off < l.length := blt_lt hlt.1
      obtain ⟨u, hu, hx⟩ := C_one hC off hlt'
      rw [Array.getElem?_toList] at hu
      exact ⟨u, by simp [part, hz.isAgg W, ha, hu], Rel_of_Rel0 (Rel0_of_X hlt.2 hx)⟩
  · simp only [ha, cond_true] at h
    cases hle : Nat.ble (off + d.sz) l.length
    · simp [hle] at h
    · simp only [hle, cond_true, Option.some.injEq] at h
      subst h
      have hle' : off + d.sz ≤ l.length := Nat.le_of_ble_eq_true hle
      refine ⟨.agg (cs.extract off (off + d.sz)), by simp [part, hz.isAgg W, ha, hz.sizeOf W], ?_⟩
      rw [rel_agg]
      refine ⟨_, rfl, ?_⟩
      have := C_sub off d.sz hC
      rw [Nat.mul_one, Nat.mul_one] at this
      rw [Array.toList_extract]
      simpa [List.extract_eq_take_drop, Nat.add_sub_cancel_left] using this
end
end Go.RX
