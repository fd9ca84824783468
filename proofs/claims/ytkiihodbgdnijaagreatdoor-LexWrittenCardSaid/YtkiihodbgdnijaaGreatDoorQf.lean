/- What a caller's arguments hold, of any type made of whole numbers, bools, texts, structs and slices. -/
import Derived.Test.YtkiihodbgdnijaaGreatDoorQc
import Derived.ChangeArms
import Derived.Below
set_option linter.unusedVariables false
set_option linter.unusedSimpArgs false
namespace Go.RX

mutual
/-- Whole numbers are within their kinds. -/
def gd : AV → Prop
  | .int k n => (Lit.int k n).wf = true
  | .str s => s.size ≤ maxLen
  | .ints k l => ∀ n, n ∈ l → (Lit.int k n).wf = true
  | .list _ l => gdL l
  | .agg l => gdL l
  | _ => True
def gdL : List AV → Prop
  | [] => True
  | x :: xs => gd x ∧ gdL xs
end
theorem gdL_append : ∀ {l m : List AV}, gdL l → gdL m → gdL (l ++ m)
  | [], m, _, h => h
  | x :: l, m, h, h' => ⟨h.1, gdL_append h.2 h'⟩
theorem gdL_mem : ∀ {l : List AV} {x : AV}, gdL l → x ∈ l → gd x
  | y :: l, x, h, hx => by
    rcases List.mem_cons.1 hx with rfl | hx
    · exact h.1
    · exact gdL_mem h.2 hx
theorem gdL_get : ∀ {l : List AV} {i : Nat}, gdL l → i < l.length → gd (aget l i)
  | x :: l, 0, h, _ => h.1
  | x :: l, i + 1, h, hi => gdL_get (l := l) h.2 (by simpa using hi)
def leaf : ETy → Bool
  | .st _ => false
  | _ => true
theorem wtL_mk : ∀ {es : List ETy} {xs : List AV}, es.all leaf = true → xs.length = es.length → (∀ p, p ∈ es.zip xs → wt p.1 p.2 = true) → wtL es xs = true
  | [], [], _, _, _ => rfl
  | e :: es, x :: xs, hl, hn, hw => by
    rw [List.all_cons, Bool.and_eq_true] at hl
    have ih := wtL_mk (es := es) (xs := xs) hl.2 (by simpa using hn) (fun p hp => hw p (by simp [hp]))
    have h0 := hw (e, x) (by simp)
    cases e with
    | st fs => simp [leaf] at hl
    | _ => simp only [wtL, ih, Bool.and_true]; exact h0
  | [], _ :: _, _, hn, _ => by simp at hn
  | _ :: _, [], _, hn, _ => by simp at hn

/-- The cells' kinds of a type. -/
def gTyL (P : Program) (g : TypeId → Option (List ETy)) : Nat → List Field → Option (List ETy)
  | _, [] => some []
  | o, f :: fs => (g f.type).bind fun ks => cond (Nat.beq f.offset o && Nat.beq (P.cellsOf f.type) ks.length) ((gTyL P g (o + ks.length) fs).map (ks ++ ·)) none
def elemTy (P : Program) (e : TypeId) (es : List ETy) : Option ETy := match P.underlying e with
  | some (.struct _) => some (.st es)
  | _ => match es with
    | [x] => some x
    | _ => none
def gTy (P : Program) : Nat → TypeId → Option (List ETy)
  | 0, _ => none
  | n + 1, t => match P.underlying t with
    | some (.int k) => some [.int k]
    | some .bool => some [.bool]
    | some .string => some [.str]
    | some (.slice e) => (gTy P n e).bind fun es => (elemTy P e es).bind fun E => cond (Nat.beq (P.cellsOf e) E.sz && Nat.blt 0 E.sz) (some [.sl E]) none
    | some (.struct fs) => (gTyL P (gTy P n) 0 fs.toList).bind fun ks => cond (Nat.beq (P.cellsOf t) ks.length) (some ks) none
    | _ => none
section
variable {H : Type} {enc : TypeId × Value → H} {P : Program} {w : World} {base : Nat} {spare : Nat → Bool} {held : Bool}
structure HoldsA (w : World) (es : List ETy) (cs : List Value) (xs : List AV) : Prop where
  lf : es.all leaf = true
  len : xs.length = es.length
  wt : ∀ p, p ∈ es.zip xs → wt p.1 p.2 = true
  gd : gdL xs
  C : C w (fun g => g < w.heap.size) noLoc 1 xs cs
theorem HoldsA.append {es fs : List ETy} {cs ds : List Value} {xs ys : List AV} (h : HoldsA w es cs xs) (h' : HoldsA w fs ds ys) : HoldsA w (es ++ fs) (cs ++ ds) (xs ++ ys) where
  lf := by rw [List.all_append, h.lf, h'.lf]; rfl
  len := by rw [List.length_append, List.length_append, h.len, h'.len]
  wt p hp := by
    rw [List.zip_append h.len.symm, List.mem_append] at hp
    exact hp.elim (h.wt p) (h'.wt p)
  gd := gdL_append h.gd h'.gd
  C := C_append h.C h'.C
theorem HoldsA.one {e : ETy} {v : Value} {x : AV} (hl : leaf e = true) (hw : RX.wt e x = true) (hg : RX.gd x) (hx : X w (fun g => g < w.heap.size) noLoc x [v]) : HoldsA w [e] [v] [x] where
  lf := by rw [List.all_cons, hl]; rfl
  len := rfl
  wt p hp := by
    simp only [List.zip_cons_cons, List.zip_nil_left, List.mem_singleton] at hp
    subst hp
    exact hw
  gd := ⟨hg, trivial⟩
  C := ⟨[v], [], rfl, rfl, hx, rfl⟩
theorem mapM_cells {a : Addr} {n : Nat} {cs : List Value} (h : w.cells? base a n = some cs) : cs.length = n ∧ ∀ j u, cs[j]? = some u → w.cell? (a.add j) = some u := by
  unfold World.cells? at h
  split at h
  · have hl := mapM_some_length h
    simp only [List.length_range] at hl
    refine ⟨hl, fun j u hj => ?_⟩
    have hlt := (List.getElem?_eq_some_iff.1 hj).1
    have := mapM_some_get h j j (by rw [List.getElem?_range]; omega)
    rw [hj] at this
    exact this
  · cases h
theorem allInt_of {k : IntKind} : ∀ {l : List AV}, (∀ x, x ∈ l → wt (.int k) x = true) → allInt k l = true
  | [], _ => rfl
  | x :: l, h => by
    have h0 := h x (by simp)
    have ih := allInt_of (l := l) (fun y hy => h y (by simp [hy]))
    cases x <;> simp [wt] at h0
    simp only [allInt, h0, ih, Bool.and_self]
theorem ksame_symm {k k' : IntKind} (h : ksame k k' = true) : ksame k' k = true := by cases k <;> cases k' <;> first | rfl | cases h
theorem gd_ints {k : IntKind} {l : List AV} (h : ∀ x, x ∈ l → wt (.int k) x = true) (hg : gdL l) : ∀ n, n ∈ l.map AV.toInt → (Lit.int k n).wf = true := by
  intro n hn
  obtain ⟨x, hx, rfl⟩ := List.mem_map.1 hn
  have h0 := h x hx
  have h1 := gdL_mem hg hx
  cases x <;> simp [wt] at h0
  rw [ksame_eq h0]
  exact h1
theorem told_slice {e t : TypeId} {E : ETy} (hE : ∀ fs, E = .st fs → True) {n : Nat} (ht : P.underlying t = some (.slice e)) (hc : P.cellsOf e = E.sz) (hsz : 0 < E.sz)
    (hel : ∀ (m : Nat) (cs : List Value) (y : DataW H × List MemPlace), DataW.trod enc P w base spare held m e cs = some y → ∃ z, wt E z = true ∧ gd z ∧ cs.length = E.sz ∧ X w (fun g => g < w.heap.size) noLoc z cs)
    {m : Nat} {cs : List Value} {y : DataW H × List MemPlace} (hy : DataW.trod enc P w base spare held m t cs = some y) : ∃ v x, cs = [v] ∧ wt (.sl E) x = true ∧ gd x ∧ X w (fun g => g < w.heap.size) noLoc x [v] := by
  have fin : ∀ {a : Option Addr} {len cap : Nat} {l : List AV}, len ≤ cap → l.length = len → (∀ x, x ∈ l → wt E x = true) → gdL l → (l = [] ∨ ∃ ad ds, a = some ad ∧ ad.block < w.heap.size ∧ At w ad ds ∧ ds.length = l.length * E.sz ∧ C w (fun g => g < w.heap.size) noLoc E.sz l ds) →
      ∃ x, wt (.sl E) x = true ∧ gd x ∧ X w (fun g => g < w.heap.size) noLoc x [.slice a len cap] := by
    intro a len cap l hlc hl hw hg hd
    have other : (∀ k, E ≠ .int k) → ∃ x, wt (.sl E) x = true ∧ gd x ∧ X w (fun g => g < w.heap.size) noLoc x [.slice a len cap] := by
      intro hne
      refine ⟨.list E l, ?_, hg, a, cap, by rw [hl], by omega, hw, hd⟩
      have hs : ETy.same E E = true := by
        have key : ∀ E : ETy, ETy.same E E = true := by
          intro E
          exact (ETy.rec (motive_1 := fun E => ETy.same E E = true) (motive_2 := fun l => ETy.sameL l l = true)
            (fun k => by simp only [ETy.same]; cases k <;> rfl) rfl rfl (fun e ih => by simpa only [ETy.same] using ih) (fun fs ih => by simpa only [ETy.same] using ih) (fun n => by simp only [ETy.same]; exact Nat.beq_refl n) rfl rfl (fun a as ih ihs => by simp only [ETy.sameL, ih, ihs, Bool.and_self]) E)
        exact key E
      cases E with
      | int k => exact absurd rfl (hne k)
      | _ => simpa only [wt] using hs
    cases E with
    | int k =>
      refine ⟨.ints k (l.map AV.toInt), by cases k <;> rfl, gd_ints hw hg, ?_⟩
      refine ⟨a, cap, by rw [List.length_map, hl], by rw [List.length_map]; omega, ?_⟩
      rcases hd with rfl | ⟨ad, ds, rfl, h1, h2, h3, h4⟩
      · exact .inl rfl
      · refine .inr ⟨ad, rfl, h1, ?_⟩
        have := C_ints (allInt_of hw) h4
        rw [← this]
        exact h2
    | _ => exact other (by intro k h; cases h)
  rcases DataW.trod_slice ht hy with ⟨rfl, _⟩ | ⟨a, len, cap, elems, rest, n', _, rfl, hx, _, hl, _, hlen, hels, _⟩
  · obtain ⟨x, h⟩ := fin (a := none) (len := 0) (cap := 0) (l := []) (Nat.le_refl _) rfl (by simp) trivial (.inl rfl)
    exact ⟨_, x, rfl, h⟩
  · have each : ∀ i, i < len → ∃ z cs, wt E z = true ∧ gd z ∧ cs.length = E.sz ∧ X w (fun g => g < w.heap.size) noLoc z cs ∧ ∀ j u, cs[j]? = some u → w.cell? (a.add (i * E.sz + j)) = some u := by
      intro i hi
      have hE := hels i hi
      rw [hc] at hE
      cases hy' : elems[i]? with
      | none =>
        have := List.getElem?_eq_none_iff.1 hy'
        omega
      | some y' =>
        rw [hy', Option.bind_eq_some_iff] at hE
        obtain ⟨c1, hc1, hy1⟩ := hE
        obtain ⟨z, h1, h2, h3, h4⟩ := hel _ _ _ hy1
        obtain ⟨q1, q2⟩ := mapM_cells hc1
        exact ⟨z, c1, h1, h2, h3, h4, fun j u hj => by have := q2 j u hj; rwa [add_at] at this⟩
    have build : ∀ m, m ≤ len → ∃ (l : List AV) (ds : List Value), l.length = m ∧ ds.length = m * E.sz ∧ (∀ x, x ∈ l → wt E x = true) ∧ gdL l ∧ C w (fun g => g < w.heap.size) noLoc E.sz l ds ∧ (∀ (j : Nat) (u : Value), ds[j]? = some u → w.cell? (a.add j) = some u) := by
      intro m
      induction m with
      | zero => exact fun _ => ⟨[], [], rfl, by simp, by simp, trivial, rfl, by simp⟩
      | succ m ih =>
        intro hm
        obtain ⟨l, ds, h1, h2, h3, h4, h5, h6⟩ := ih (by omega)
        obtain ⟨z, cs, g1, g2, g3, g4, g5⟩ := each m (by omega)
        refine ⟨l ++ [z], ds ++ cs, by simp [h1], by rw [List.length_append, h2, g3, Nat.succ_mul], ?_, gdL_append h4 ⟨g2, trivial⟩, C_append h5 ⟨cs, [], by simp, g3, g4, rfl⟩, ?_⟩
        · intro x hx
          rcases List.mem_append.1 hx with h | h
          · exact h3 x h
          · simp only [List.mem_singleton] at h
            subst h
            exact g1
        · intro j u hu
          rcases Nat.lt_or_ge j ds.length with hj | hj
          · rw [List.getElem?_append_left hj] at hu
            exact h6 j u hu
          · rw [List.getElem?_append_right hj] at hu
            have := g5 _ u hu
            rw [h2] at this hj
            rwa [show m * E.sz + (j - m * E.sz) = j from by omega] at this
    obtain ⟨l, ds, h1, h2, h3, h4, h5, h6⟩ := build len (Nat.le_refl _)
    rcases Nat.eq_zero_or_pos len with h0 | h0
    · obtain ⟨x, h⟩ := fin (a := some a) (cap := cap) (l := []) hl (by simp [h0]) (by simp) trivial (.inl rfl)
      exact ⟨_, x, rfl, h⟩
    · have hb : ∀ i, (a.add i).block = a.block := by intro i; unfold Addr.add; split <;> rfl
      have hlt : a.block < w.heap.size := by
        have hd : 0 < ds.length := by rw [h2]; exact Nat.mul_pos h0 hsz
        have := h6 0 ds[0] (List.getElem?_eq_getElem hd)
        have := cell_lt this
        rwa [hb] at this
      obtain ⟨x, h⟩ := fin (a := some a) (cap := cap) hl h1 h3 h4 (.inr ⟨a, ds, rfl, hlt, h6, by rw [h2, h1], h5⟩)
      exact ⟨_, x, rfl, h⟩
theorem gTyL_open {g : TypeId → Option (List ETy)} {cs : List Value} (hg : ∀ (t : TypeId) (ks : List ETy), g t = some ks → ∀ (m : Nat) (ds : List Value) (y : DataW H × List MemPlace), DataW.trod enc P w base spare held m t ds = some y → ∃ xs, HoldsA w ks ds xs) (m : Nat) :
    ∀ (fs : List Field) (o : Nat) (ks : List ETy), gTyL P g o fs = some ks → cs.length = o + ks.length → (∀ f ∈ fs, ∃ y, DataW.trod enc P w base spare held m f.type ((cs.drop f.offset).take (P.cellsOf f.type)) = some y) → ∃ xs, HoldsA w ks (cs.drop o) xs
  | [], o, ks, h, hl, _ => by
    simp only [gTyL, Option.some.injEq] at h
    subst h
    rw [List.drop_eq_nil_of_le (by simp at hl; omega)]
    exact ⟨[], rfl, rfl, fun p hp => by simp at hp, trivial, rfl⟩
  | f :: fs, o, ks, h, hl, hy => by
    simp only [gTyL, Option.bind_eq_some_iff] at h
    obtain ⟨k1, h1, h⟩ := h
    cases hc : (Nat.beq f.offset o && Nat.beq (P.cellsOf f.type) k1.length) with
    | false => rw [hc] at h; cases h
    | true =>
      rw [hc] at h
      rw [Bool.and_eq_true] at hc
      have e1 := Nat.eq_of_beq_eq_true hc.1
      have e2 := Nat.eq_of_beq_eq_true hc.2
      simp only [cond_true, Option.map_eq_some_iff] at h
      obtain ⟨k2, h2, rfl⟩ := h
      obtain ⟨y, hy0⟩ := hy f (by simp)
      rw [e1, e2] at hy0
      obtain ⟨x1, a⟩ := hg _ _ h1 _ _ _ hy0
      obtain ⟨x2, b⟩ := gTyL_open hg m fs (o + k1.length) k2 h2 (by rw [hl, List.length_append]; omega) (fun f' hf' => hy f' (by simp [hf']))
      have := a.append b
      rw [← List.drop_drop, List.take_append_drop] at this
      exact ⟨_, this⟩
theorem sz_leaf {e : ETy} (h : leaf e = true) (hn : ∀ n, e ≠ .opq n) : e.sz = 1 := by
  cases e with
  | st fs => cases h
  | opq n => exact absurd rfl (hn n)
  | _ => rfl
theorem gTy_open : ∀ (n : Nat) (t : TypeId) (ks : List ETy), gTy P n t = some ks → ∀ (m : Nat) (cs : List Value) (y : DataW H × List MemPlace), DataW.trod enc P w base spare held m t cs = some y → ∃ xs, HoldsA w ks cs xs
  | 0, t, ks, h, m, cs, y, hy => by cases h
  | n + 1, t, ks, h, m, cs, y, hy => by
    unfold gTy at h
    split at h
    · rename_i k hk
      obtain ⟨z, rfl, _, hw⟩ := DataW.trod_int hk hy
      cases h
      exact ⟨[.int k z], .one rfl (by cases k <;> rfl) hw rfl⟩
    · rename_i hk
      obtain ⟨z, rfl, _⟩ := DataW.trod_bool hk hy
      cases h
      exact ⟨[.bool z], .one rfl rfl trivial rfl⟩
    · rename_i hk
      obtain ⟨z, rfl, _, hw⟩ := DataW.trod_string hk hy
      cases h
      exact ⟨[.str z], .one rfl rfl hw rfl⟩
    · rename_i e hk
      simp only [Option.bind_eq_some_iff] at h
      obtain ⟨es, h1, E, h2, h⟩ := h
      cases hc : (Nat.beq (P.cellsOf e) E.sz && Nat.blt 0 E.sz) with
      | false => rw [hc] at h; cases h
      | true =>
        rw [hc] at h
        cases h
        rw [Bool.and_eq_true] at hc
        have hcz := Nat.eq_of_beq_eq_true hc.1
        have hsz : 0 < E.sz := blt_lt hc.2
        have hel : ∀ (m : Nat) (cs : List Value) (y : DataW H × List MemPlace), DataW.trod enc P w base spare held m e cs = some y → ∃ z, RX.wt E z = true ∧ RX.gd z ∧ cs.length = E.sz ∧ X w (fun g => g < w.heap.size) noLoc z cs := by
          intro m cs y hy
          obtain ⟨xs, hA⟩ := gTy_open n e es h1 m cs y hy
          have hln := C_length _ _ _ hA.C
          rw [Nat.mul_one, hA.len] at hln
          unfold elemTy at h2
          split at h2
          · cases h2
            exact ⟨.agg xs, wtL_mk hA.lf hA.len hA.wt, hA.gd, hln, hA.C⟩
          · split at h2
            · rename_i x _
              cases h2
              obtain ⟨lf, len, hwt, hgd, hC⟩ := hA
              match xs, len with
              | [z], _ =>
                obtain ⟨c, d, rfl, hm, hx, rfl⟩ := hC
                rw [List.append_nil]
                have hlf : leaf E = true := by simpa using lf
                have hw := hwt (E, z) (by simp)
                refine ⟨z, hw, hgd.1, ?_, hx⟩
                rw [hm]
                cases E with
                | st fs => cases hlf
                | opq q => 
                  cases q with
                  | zero => cases z <;> simp [RX.wt, wtO] at hw
                  | succ q => cases q with
                    | zero => rfl
                    | succ q => cases z <;> simp [RX.wt, wtO] at hw
                | _ => rfl
            · cases h2
        obtain ⟨v, x, rfl, a, b, c⟩ := told_slice (E := E) (n := n) (fun _ _ => trivial) hk hcz hsz hel hy
        exact ⟨[x], .one rfl a b c⟩
    · rename_i fs hk
      simp only [Option.bind_eq_some_iff] at h
      obtain ⟨k1, h1, h⟩ := h
      cases hc : Nat.beq (P.cellsOf t) k1.length with
      | false => rw [hc] at h; cases h
      | true =>
        rw [hc] at h
        cases h
        obtain ⟨xs, m', _, _, hl, hx, hf⟩ := DataW.trod_struct hk hy
        have := gTyL_open (cs := cs) (gTy_open n) m' fs.toList 0 ks h1 (by rw [hl, Nat.eq_of_beq_eq_true hc]; omega) (by
          intro f hf'
          obtain ⟨i, hi, rfl⟩ := List.getElem_of_mem hf'
          have e := hf i fs.toList[i] (by simp)
          have : i < xs.length := by rw [hx]; simpa using hi
          rw [List.getElem?_eq_getElem this] at e
          exact ⟨_, e⟩)
        simpa using this
    · cases h

theorem band {a b : Bool} (ha : a = true) (hb : b = true) : (a && b) = true := by rw [ha, hb]; rfl
theorem wtL_at : ∀ {fs : List ETy} {xs : List AV}, wtL fs xs = true → xs.length = fs.length ∧ ∀ (i : Nat) (e : ETy), fs[i]? = some e → wt e (aget xs i) = true
  | [], xs, h => by
    cases xs with
    | nil => exact ⟨rfl, fun i e h => by simp at h⟩
    | cons x xs => simp [wtL] at h
  | e :: fs, xs, h => by
    cases xs with
    | nil => simp [wtL] at h
    | cons x xs =>
      obtain ⟨h1, h2, _⟩ := wtL_cons h
      obtain ⟨i1, i2⟩ := wtL_at h2
      refine ⟨by simp [i1], fun i e' he => ?_⟩
      cases i with
      | zero =>
        simp only [List.getElem?_cons_zero, Option.some.injEq] at he
        subst he
        exact h1
      | succ i => exact i2 i e' (by simpa using he)
theorem i64_in {x : AV} (h : wt (.int .i64) x = true) (g : gd x) : -9223372036854775808 ≤ x.toInt ∧ x.toInt ≤ 9223372036854775807 := by
  cases x <;> simp [wt] at h
  rename_i k n
  have := ksame_eq h
  subst this
  have g : (decide ((-9223372036854775808 : Int) ≤ n) && decide (n ≤ 9223372036854775807)) = true := g
  rw [Bool.and_eq_true, decide_eq_true_eq, decide_eq_true_eq] at g
  exact g
theorem i64s_in {x : AV} (h : wt (.sl (.int .i64)) x = true) (g : gd x) : ∀ n, n ∈ x.asInts → -9223372036854775808 ≤ n ∧ n ≤ 9223372036854775807 := by
  cases x <;> simp [wt] at h
  rename_i k l
  have := ksame_eq h
  subst this
  intro n hn
  have g : (decide ((-9223372036854775808 : Int) ≤ n) && decide (n ≤ 9223372036854775807)) = true := g n hn
  rw [Bool.and_eq_true, decide_eq_true_eq, decide_eq_true_eq] at g
  exact g
theorem st_in {fs : List ETy} {z : AV} (h : wt (.st fs) z = true) (g : gd z) : z.flds.length = fs.length ∧ ∀ (i : Nat) (e : ETy), fs[i]? = some e → wt e (aget z.flds i) = true ∧ gd (aget z.flds i) := by
  cases z <;> simp [wt] at h
  rename_i l
  obtain ⟨h1, h2⟩ := wtL_at h
  refine ⟨h1, fun i e he => ⟨h2 i e he, ?_⟩⟩
  have : i < fs.length := (List.getElem?_eq_some_iff.1 he).1
  exact gdL_get g (by show i < l.length; rw [h1]; exact this)
/-- An argument, told. -/
structure Arg (w : World) (e : ETy) (z : AV) (v : Value) : Prop where
  wt : wt e z = true
  gd : gd z
  rel : Rel0 w (fun g => g < w.heap.size) noLoc z v
theorem leaf_noagg {e : ETy} {z : AV} (hl : leaf e = true) (hw : RX.wt e z = true) : z.isAgg = false := by
  cases e with
  | st fs => cases hl
  | sl e => cases z <;> first | rfl | (cases e <;> simp [RX.wt] at hw)
  | opq n => cases z <;> first | rfl | (match n, hw with | 0, hw => cases hw | 1, hw => cases hw | _ + 2, hw => cases hw)
  | _ => cases z <;> first | rfl | simp [RX.wt] at hw
theorem arg_leaf {n : Nat} {t : TypeId} {e : ETy} {m : Nat} {v : Value} {y : DataW H × List MemPlace} (h : gTy P n t = some [e]) (hy : DataW.trod enc P w base spare held m t [v] = some y) : ∃ z, Arg w e z v := by
  obtain ⟨xs, hA⟩ := gTy_open n t _ h m _ y hy
  obtain ⟨lf, len, hwt, hgd, hC⟩ := hA
  match xs, len with
  | [z], _ =>
    obtain ⟨c, d, hcd, hm, hx, rfl⟩ := hC
    rw [List.append_nil] at hcd
    subst hcd
    have hw := hwt (e, z) (by simp)
    have hlf : leaf e = true := by simpa using lf
    refine ⟨z, hw, hgd.1, ?_⟩
    unfold Rel0 lift
    rw [leaf_noagg hlf hw]
    exact hx
theorem arg_st {n : Nat} {t : TypeId} {es : List ETy} {m : Nat} {c : Array Value} {y : DataW H × List MemPlace} (h : gTy P n t = some es) (hy : DataW.trod enc P w base spare held m t c.toList = some y) : ∃ z, Arg w (.st es) z (.agg c) := by
  obtain ⟨xs, hA⟩ := gTy_open n t _ h m _ y hy
  refine ⟨.agg xs, wtL_mk hA.lf hA.len hA.wt, hA.gd, ?_⟩
  unfold Rel0 lift
  simp only [AV.isAgg, if_true]
  refine ⟨c, rfl, ?_⟩
  simp only [X]
  exact hA.C
end
open Go.RowKit in
/-- A law's run, by its contract, of arguments that are told. -/
theorem law_told {P : Program} {g : FuncId} {ps : List ETy} {F : dens ps → Option (dens [.bool])} (h : CtrOk P g (mkF ps [.bool] F)) {W : World} (hG : Glob W (fun g => g < W.heap.size)) {zs : List AV} {vs : List Value} (hl : zs.length = ps.length) (hw : ((ps.zip zs).all fun p => wt p.1 p.2) = true) (hv : All2 (Rel0 W (fun g => g < W.heap.size) noLoc) zs vs) (ht : F (unL ps zs) = some true) :
    Calls P g vs.toArray W fun e W' => e = .returned (.bool true) ∧ Below W.heap.size W W' := by
  refine Calls.mono (h.calls zs true ht hl hw W (fun g => g < W.heap.size) vs (fun _ h => h) hG hv) ?_
  rintro e W' ⟨u, okR, ρ', rfl, hp⟩
  refine ⟨?_, hp.os, hp.tape, hp.output, hp.size, hp.keep⟩
  have := hp.res 0
  simp [mkF, mkC, outOf, reL, mkV, tupOf, Rel, Rel0, lift, AV.isAgg, X] at this
  rw [this]
end Go.RX
