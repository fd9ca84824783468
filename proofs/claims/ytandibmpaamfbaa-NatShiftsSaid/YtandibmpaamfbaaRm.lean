/- Stores; variables, rows and literals that are made. -/
import Derived.Test.YtandibmpaamfbaaRl
set_option linter.unusedVariables false
set_option linter.unusedSimpArgs false
namespace Go.RX

/-- What an operation does, in whatever world in which its operands are what is told. -/
def OpS (P : Program) (o : Oper) (ev : Operand → AV) (H : List Blk) (τ : Tr) (v : AV) (H' : List Blk) : Prop :=
  ∀ (Q : Exit → Act → World → Prop) (a : Act) (W : World) (ok : Nat → Prop) (ρ : Nat → Option Nat),
    (∀ x, x ∈ o.op.operands.toList → Rel W ok (locs ρ H) (ev x) (a.eval x)) → HeapOk W ok ρ H →
    ∀ K : Act → World → Prop, (∀ u W' ok' ρ', Trans W W' ok ok' ρ H ρ' H' → HeapOk W' ok' ρ' H' → Rel W' ok' (locs ρ' H') v u →
      (∀ x y, Rel W ok (locs ρ H) x y → Rel W' ok' (locs ρ' H') (τ.app x) y) → K (a.put o.dst u) W') → o.wp P a W K Q

section
variable {P : Program} {tab : Tab} {W W' : World} {ok ok' okv : Nat → Prop} {ρ ρ' : Nat → Option Nat} {H H' : List Blk} {R R' : Nat → Option Loc}

theorem OpS.of_quiet {o : Oper} {ev : Operand → AV} {v : AV} (h : ∀ (W : World) (ok : Nat → Prop) (ρ : Nat → Option Nat) (rv : Operand → Value), (∀ x, x ∈ o.op.operands.toList → Rel W ok (locs ρ H) (ev x) (rv x)) → HeapOk W ok ρ H → ∃ u, (execOp rv o).run P W = .ok (.value u) W ∧ Rel W ok (locs ρ H) v u) : OpS P o ev H .id v H := by
  intro Q a W ok ρ hr hH K hK
  obtain ⟨u, hu, hv⟩ := h W ok ρ a.eval hr hH
  unfold Oper.wp
  rw [hu]
  exact hK u W ok ρ Trans.refl hH hv (fun x y h => h)

/-! ### cells that are put -/
theorem put_cells {cur : Array Value} {vs : List Value} {o : Nat} (h : o + vs.length ≤ cur.size) :
    (cur.toList.take o ++ vs ++ cur.toList.drop (o + vs.length)).toArray.size = cur.size ∧
    ∀ j, (cur.toList.take o ++ vs ++ cur.toList.drop (o + vs.length)).toArray[j]? = if o ≤ j ∧ j < o + vs.length then vs[j - o]? else cur[j]? := by
  constructor
  · simp
    omega
  · intro j
    simp only [List.getElem?_toArray, List.getElem?_append, List.length_append, List.length_take, Array.length_toList, List.getElem?_take, List.getElem?_drop]
    have hm : min o cur.size = o := by omega
    rw [hm]
    by_cases h1 : j < o
    · have h2 : j < o + vs.length := by omega
      have h3 : ¬ (o ≤ j ∧ j < o + vs.length) := by omega
      rw [if_pos h2, if_pos h1, if_pos h1, if_neg h3, Array.getElem?_toList]
    · by_cases h2 : j < o + vs.length
      · have h3 : o ≤ j ∧ j < o + vs.length := by omega
        rw [if_pos h2, if_neg h1, if_pos h3]
      · have h3 : ¬ (o ≤ j ∧ j < o + vs.length) := by omega
        rw [if_neg h2, if_neg h3, show o + vs.length + (j - (o + vs.length)) = j from by omega, Array.getElem?_toList]

theorem Pre_size {cur : Array Value} {ds : List Value} (h : Pre cur ds) {j : Nat} (hj : j < ds.length) : j < cur.size := by
  have := h j _ (List.getElem?_eq_getElem hj)
  exact (Array.getElem?_eq_some_iff.1 this).1

theorem Pre_put {cur : Array Value} {ds vs : List Value} {o : Nat} (hp : Pre cur ds) (h : o + vs.length ≤ cur.size) : Pre (cur.toList.take o ++ vs ++ cur.toList.drop (o + vs.length)).toArray (ds.take o ++ vs ++ ds.drop (o + vs.length)) ∨ ds.length < o := by
  rcases Nat.lt_or_ge ds.length o with hlt | hge
  · exact .inr hlt
  · left
    intro j u hu
    rw [(put_cells h).2]
    simp only [List.getElem?_append, List.length_append, List.length_take, List.getElem?_take, List.getElem?_drop] at hu
    have hm : min o ds.length = o := by omega
    rw [hm] at hu
    by_cases h1 : j < o
    · have h2 : j < o + vs.length := by omega
      have h3 : ¬ (o ≤ j ∧ j < o + vs.length) := by omega
      rw [if_pos h2, if_pos h1, if_pos h1] at hu
      rw [if_neg h3]
      exact hp j u hu
    · by_cases h2 : j < o + vs.length
      · have h3 : o ≤ j ∧ j < o + vs.length := by omega
        rw [if_pos h2, if_neg h1] at hu
        rw [if_pos h3]
        exact hu
      · have h3 : ¬ (o ≤ j ∧ j < o + vs.length) := by omega
        rw [if_neg h2, show o + vs.length + (j - (o + vs.length)) = j from by omega] at hu
        rw [if_neg h3]
        exact hp j u hu

theorem store_run (hT : TabOk P tab) {t : TypeId} {d : TyD} (hd : tab t = some d) {g o : Nat} {v : Value} {cur : Array Value} {ty : TypeId} (hh : W.heap[g]? = some (.cells cur ty (0, 0))) (hs : v.cells.size = d.sz) (hb : o + d.sz ≤ cur.size)
    (h1 : ∀ u, u ∈ v.cells.toList → u.oneCell' = true) :
    (Instr.storeAt t (.pointer (some ⟨g, o, none⟩)) v).run P W = .ok () (W.setRow g (cur.toList.take o ++ v.cells.toList ++ cur.toList.drop (o + v.cells.toList.length)).toArray) := by
  obtain ⟨z, hz⟩ := hT _ _ hd
  have := run_storeCells_at P g o ty v.cells.toList 0 cur W hh (by simp; omega) h1
  simp only [Nat.add_zero] at this
  simp [Instr.storeAt, Instr.sureAddr, storeVar, hz.sizeOf, hs, this]

theorem locs_congr {H2 : List Blk} (h : ∀ b, hget H b = hget H2 b) : locs ρ H = locs ρ H2 := by
  funext b
  unfold locs
  rw [h b]
theorem mutg_congr {H2 : List Blk} (h : ∀ b, hget H b = hget H2 b) (g : Nat) : mutg ρ H g ↔ mutg ρ H2 g := by
  unfold mutg
  simp only [h]
theorem HeapOk.congr {H2 : List Blk} (hk : HeapOk W ok ρ H) (h : ∀ b, hget H b = hget H2 b) : HeapOk W ok ρ H2 :=
  ⟨fun b => h b ▸ hk.blk b, fun b b' g h1 h2 => hk.inj b b' g (by rw [h b]; exact h1) (by rw [h b']; exact h2), fun b g h1 => hk.apart b g (by rw [h b]; exact h1), hk.lt⟩
theorem Trans.congr {H2 : List Blk} (t : Trans W W' ok ok' ρ H ρ' H') (h : ∀ b, hget H' b = hget H2 b) : Trans W W' ok ok' ρ H ρ' H2 :=
  ⟨t.os, t.tape, t.output, t.size, t.keep, t.shape, t.okf, t.okb, fun g hg => t.mu g ((mutg_congr h g).2 hg)⟩

/-- A store, given what the block holds behind it. -/
theorem OpS.of_store (hT : TabOk P tab) {o : Oper} {ev : Operand → AV} {t : TypeId} {pa px : Operand} (ho : o.op = .store t pa px) {d : TyD} (hd : tab t = some d) {b sz i off : Nat} {x' : Blk} (hev : ev pa = .ptr b sz i off)
    (hl : (hget H b).live = true) (hlx : x'.live = true) (hn : x'.len = (hget H b).len) {bs : List Nat} (hnb : b ∉ bs)
    (hb : ∀ (W : World) (ok : Nat → Prop) (ρ : Nat → Option Nat) (u : Value) (g : Nat), HeapOk W ok ρ H → Rel W ok (locs ρ H) (ev px) u → ρ b = some g → i < (hget H b).len →
      ∃ cur ty, W.heap[g]? = some (.cells cur ty (0, 0)) ∧ u.cells.size = d.sz ∧ i * sz + off + d.sz ≤ cur.size ∧ (∀ w, w ∈ u.cells.toList → w.oneCell' = true) ∧
        ∀ W', Later W W' (okF ok ρ H bs) → (∀ g', g' ≠ g → W'.heap[g']? = W.heap[g']?) → W'.heap[g]? = some (.cells (cur.toList.take (i * sz + off) ++ u.cells.toList ++ cur.toList.drop (i * sz + off + u.cells.toList.length)).toArray ty (0, 0)) →
          BlkOk W' (okF ok ρ H bs) (some g) x') :
    OpS P o ev H (trOf H bs) (.tup []) (killH (hset H b x') bs) := by
  intro Q a W ok ρ hr hH K hK
  have hra := hr pa (by rw [ho]; simp [Op.operands])
  have hrx := hr px (by rw [ho]; simp [Op.operands])
  rw [hev, rel_ptr] at hra
  obtain ⟨loc, g, hloc, hg, hea, hi⟩ := hra
  obtain ⟨_, hg', hn'⟩ := locs_some hloc
  obtain ⟨cur, ty, hh, hs, hbd, h1, hblk⟩ := hb W ok ρ (a.eval px) g hH hrx (by rw [← hg', hg]) (by omega)
  have hrun := store_run (P := P) (W := W) hT hd (o := i * sz + off) hh hs hbd h1
  have hsz := (put_cells (cur := cur) (vs := (a.eval px).cells.toList) (o := i * sz + off) (by rw [Array.length_toList]; omega)).1
  have hρ : ρ b = some g := by rw [← hg', hg]
  generalize hcs : (cur.toList.take (i * sz + off) ++ (a.eval px).cells.toList ++ cur.toList.drop (i * sz + off + (a.eval px).cells.toList.length)).toArray = cs at hrun hsz hblk
  -- first frozen, then written
  have hF := hH.freeze bs
  have hFl : (hget (killH H bs) b).live = true := by rw [hget_killH, if_neg hnb]; exact hl
  have hT1 := trans_freeze (W := W) (ok := ok) (ρ := ρ) (H := H) bs
  have hT2 := trans_setRow (x := x') (ok := okF ok ρ H bs) hFl hρ hh hsz
  have hlat : Later W (W.setRow g cs) (okF ok ρ H bs) := hT2.later hF
  have hbo := hblk (W.setRow g cs) hlat (fun g' hne => heap_setRow W g cs g' hne) (heap_setRow_same hh)
  have hH2 := hF.setRow (x := x') hFl hρ hh hsz hbo
  have heq : ∀ c, hget (hset (killH H bs) b x') c = hget (killH (hset H b x') bs) c := by
    intro c
    rw [hget_hset_live hFl, hget_killH, hget_killH, hget_hset_live hl]
    by_cases hc : c = b
    · subst hc
      simp [hnb]
    · simp [hc]
  have hlocs : locs ρ (killH (hset H b x') bs) = locs ρ (killH H bs) := by
    rw [← locs_congr heq]
    refine locs_set hFl hlx ?_
    rw [hget_killH, if_neg hnb, hn]
  have hla := hT2.later hF
  have hT : Trans W (W.setRow g cs) ok (okF ok ρ H bs) ρ H ρ (killH (hset H b x') bs) := (hT1.trans hT2).congr heq
  unfold Oper.wp
  have hex : (execOp a.eval o).run P W = .ok .skip (W.setRow g cs) := by
    obtain ⟨dst, op, ty', pos, after, guard⟩ := o
    simp only at ho
    subst ho
    simp only [execOp]
    rw [hea]
    simp only [Sem.run_bind, hrun, Result.andThen_ok, Sem.run_pure]
  rw [hex]
  refine hK undef _ _ ρ hT (hH2.congr heq) ?_ ?_
  · rw [rel_tup]
    exact ⟨#[], rfl, rfl⟩
  · intro x y hxy
    have := trOf_app hH bs hxy
    rw [hlocs]
    exact Rel_mono2 hla (fun _ h => h) (fun b loc _ h => h) this

theorem C_set {m : Nat} {l : List AV} {ds c : List Value} {i : Nat} {y : AV} (hC : C W ok R m l ds) (hi : i < l.length) (hx : X W ok R y c) (hc : c.length = m) : C W ok R m (l.set i y) (ds.take (i * m) ++ c ++ ds.drop (i * m + m)) := by
  have e : l.set i y = l.take i ++ [y] ++ l.drop (i + 1) := by
    rw [List.set_eq_take_append_cons_drop, if_pos hi]
    simp
  rw [e]
  refine C_append (C_append (C_take i hC) ?_) ?_
  · simp only [C]
    exact ⟨c, [], by simp, hc, hx, rfl⟩
  · have := C_drop (i + 1) hC
    rwa [Nat.succ_mul] at this

theorem asetN_eq : ∀ (l : List AV) (n : Nat) (y : AV), asetN l n y = l.set n y
  | [], n, y => by simp [asetN]
  | x :: xs, 0, y => rfl
  | x :: xs, n + 1, y => by simp [asetN, asetN_eq xs n y]

theorem aget_set {l : List AV} {n m : Nat} {y : AV} (h : n < l.length) : aget (l.set n y) m = if m = n then y else aget l m := by
  induction l generalizing n m with
  | nil => simp at h
  | cons x xs ih =>
    cases n with
    | zero => cases m <;> simp [aget]
    | succ n =>
      cases m with
      | zero => simp [aget]
      | succ m =>
        simp only [List.set_cons_succ, aget]
        rw [ih (by simpa using h)]
        simp

theorem etaL_length : ∀ (fs : List ETy) (n : Nat) (xs : List AV), (etaL fs n xs).length = fs.length
  | [], _, _ => rfl
  | e :: es, n, xs => by simp [etaL, etaL_length es]
theorem etaL_at : ∀ (fs : List ETy) (n : Nat) (xs : List AV) (j : Nat) (e : ETy), fs[j]? = some e → aget (etaL fs n xs) j = eta e (aget xs (n + j))
  | [], n, xs, j, e, h => by simp at h
  | f :: fs, n, xs, 0, e, h => by
    simp only [List.getElem?_cons_zero, Option.some.injEq] at h
    subst h
    rfl
  | f :: fs, n, xs, j + 1, e, h => by
    simp only [etaL, aget]
    rw [etaL_at fs (n + 1) xs j e (by simpa using h)]
    congr 2
    omega
theorem aget_ext : ∀ {l l' : List AV}, l.length = l'.length → (∀ j, j < l.length → aget l j = aget l' j) → l = l'
  | [], [], _, _ => rfl
  | x :: xs, y :: ys, hl, h => by
    have h0 := h 0 (by simp)
    simp only [aget] at h0
    subst h0
    congr 1
    exact aget_ext (by simpa using hl) (fun j hj => by have := h (j + 1) (by simpa using hj); simpa [aget] using this)
  | [], y :: ys, hl, _ => by simp at hl
  | x :: xs, [], hl, _ => by simp at hl
theorem wtL_set : ∀ {fs : List ETy} {xs : List AV} {o : Nat} {fe : ETy} {y : AV}, wtL fs xs = true → fs[o]? = some fe → wt fe y = true → wtL fs (xs.set o y) = true
  | [], xs, o, fe, y, _, h, _ => by simp at h
  | e :: es, [], o, fe, y, hw, _, _ => by simp [wtL] at hw
  | e :: es, x :: xs, 0, fe, y, hw, h, hy => by
    obtain ⟨h1, h2, h3⟩ := wtL_cons hw
    simp only [List.getElem?_cons_zero, Option.some.injEq] at h
    subst h
    rw [List.set_cons_zero]
    cases e with
    | st fs => exact absurd rfl (h3 fs)
    | _ => simp only [wtL, hy, h2, Bool.and_self]
  | e :: es, x :: xs, o + 1, fe, y, hw, h, hy => by
    obtain ⟨h1, h2, h3⟩ := wtL_cons hw
    have := wtL_set h2 (by simpa using h) hy
    rw [List.set_cons_succ]
    cases e with
    | st fs => exact absurd rfl (h3 fs)
    | _ => simp only [wtL, h1, this, Bool.and_self]

theorem heap_len {g : Nat} {cur : Array Value} {ds : List Value} (hp : Pre cur ds) {n : Nat} (hn : n < ds.length) : n < cur.size := Pre_size hp hn

theorem Pre_len {cur : Array Value} {ds : List Value} (hp : Pre cur ds) : ds.length ≤ cur.size := by
  rcases Nat.eq_zero_or_pos ds.length with h | h
  · omega
  · have := Pre_size hp (j := ds.length - 1) (by omega)
    omega

theorem C_ints {k : IntKind} : ∀ {vs : List AV} {cs : List Value}, allInt k vs = true → C W ok R 1 vs cs → cs = (vs.map AV.toInt).map (.int k)
  | [], cs, _, h => by simpa only [C, List.map_nil] using h
  | .int k' n :: xs, cs, ha, h => by
    simp only [allInt, Bool.and_eq_true] at ha
    simp only [C] at h
    obtain ⟨c, d, e, hm, hx, hd⟩ := h
    have := C_ints ha.2 hd
    simp only [X] at hx
    subst e hx
    rw [this, ← ksame_eq ha.1]
    rfl

theorem C_pure (hH : HeapOk W ok ρ H) {e : ETy} (hns : ∀ fs, e ≠ .st fs) {bs : List Nat} : ∀ {vs : List AV} {cs : List Value}, (vs.map (pureV H e)).all (wt e) = true → (∀ b, b ∈ refOf (.agg vs) → b ∈ bs) → C W ok (locs ρ H) 1 vs cs → C W (okF ok ρ H bs) noLoc 1 (vs.map (pureV H e)) cs
  | [], cs, _, _, h => by simpa only [C, List.map_nil] using h
  | y :: ys, cs, ha, hb, h => by
    simp only [List.map_cons, List.all_cons, Bool.and_eq_true] at ha
    simp only [C, List.map_cons] at h ⊢
    obtain ⟨c, d, e', hm, hx, hd⟩ := h
    have hp := wt_plain ha.1 hns
    have hna : y.isAgg = false := by
      have := isAgg_pure (H := H) (e := e) (x := y)
      rw [← this]
      cases hy : pureV H e y <;> simp_all [plain, AV.isAgg]
    have h1 : ∀ b, b ∈ refOf y → b ∈ bs := by
      intro b hbm
      apply hb
      cases y <;> simp [refOf, AV.isAgg] at hbm hna ⊢ <;> simp [hbm]
    have h2 : ∀ b, b ∈ refOf (.agg ys) → b ∈ bs := by
      intro b hbm
      apply hb
      simp only [refOf, List.map_cons, List.flatten_cons, List.mem_append] at hbm ⊢
      exact .inr hbm
    exact ⟨c, d, e', hm, X_pure hH (fun _ h => .inl h) ha.1 (fun b g hbm hl hg => .inr ⟨b, h1 b hbm, hl, hg⟩) hx, C_pure hH hns ha.2 h2 hd⟩

theorem C_oneCells {e : ETy} (hns : ∀ fs, e ≠ .st fs) : ∀ {vs : List AV} {cs : List Value}, vs.all (wt e) = true → C W ok R 1 vs cs → ∀ w, w ∈ cs → w.oneCell' = true
  | [], cs, _, h => by simp only [C] at h; simp [h]
  | y :: ys, cs, ha, h => by
    simp only [List.all_cons, Bool.and_eq_true] at ha
    simp only [C] at h
    obtain ⟨c, d, e', hm, hx, hd⟩ := h
    subst e'
    intro w hw
    rcases List.mem_append.1 hw with hw | hw
    · exact (wt_cells ha.1 hx).2 w hw
    · exact C_oneCells hns ha.2 hd w hw

theorem X_of_Clen {m : Nat} {l : List AV} {cs : List Value} (h : C W ok R 1 l cs) : X W ok R (.agg l) cs := by simpa only [X] using h

theorem C_range {m : Nat} {f : Nat → AV} : ∀ (n s : Nat) (cs : List Value), cs.length = n * m → (∀ j, j < n → X W ok R (f (s + j)) ((cs.drop (j * m)).take m)) → C W ok R m ((List.range' s n).map f) cs
  | 0, s, cs, hl, _ => by
    have : cs = [] := List.eq_nil_of_length_eq_zero (by simpa using hl)
    simp [C, this]
  | n + 1, s, cs, hl, h => by
    rw [Nat.succ_mul] at hl
    simp only [List.range'_succ, List.map_cons, C]
    refine ⟨cs.take m, cs.drop m, (List.take_append_drop m cs).symm, by rw [List.length_take]; omega, ?_, ?_⟩
    · have := h 0 (by omega)
      simpa using this
    · refine C_range n (s + 1) _ (by rw [List.length_drop]; omega) (fun j hj => ?_)
      have := h (j + 1) (by omega)
      rw [List.drop_drop, show s + 1 + j = s + (j + 1) from by omega, show m + j * m = (j + 1) * m from by rw [Nat.succ_mul]; omega]
      exact this

/-- An array's cells, element by element. -/
theorem C_chunks (hH : HeapOk W ok ρ H) {e : ETy} {bs : List Nat} {vs : List AV} {cs : List Value} (ha : (chunks H e vs).all (wt e) = true) (hl : (chunks H e vs).length * e.sz = vs.length) (hb : ∀ b, b ∈ refOf (.agg vs) → b ∈ bs) (hC : C W ok (locs ρ H) 1 vs cs) :
    C W (okF ok ρ H bs) noLoc e.sz (chunks H e vs) cs := by
  by_cases hs : ∃ fs, e = .st fs
  · obtain ⟨fs, rfl⟩ := hs
    have hcl := C_length _ _ _ hC
    simp only [chunks, List.length_map, List.length_range, ETy.sz] at hl ha ⊢
    rw [List.range_eq_range'] at ha ⊢
    refine C_range _ 0 cs (by rw [hl]; omega) (fun j hj => ?_)
    rw [Nat.zero_add]
    have hw : wt (.st fs) (pureV H (.st fs) (.agg ((vs.drop (j * fs.length)).take fs.length))) = true :=
      List.all_eq_true.1 ha _ (List.mem_map.2 ⟨j, by simp; omega, rfl⟩)
    have hsub := C_sub (j * fs.length) fs.length hC
    simp only [Nat.mul_one] at hsub
    refine X_pure hH (fun _ h => .inl h) hw (fun b g hbm hlv hg => .inr ⟨b, hb b ?_, hlv, hg⟩) (X_of_Clen (m := 1) hsub)
    simp only [refOf] at hbm ⊢
    rw [List.mem_flatten] at hbm ⊢
    obtain ⟨l, hlm, hbl⟩ := hbm
    rw [List.mem_map] at hlm
    obtain ⟨y, hy, rfl⟩ := hlm
    exact ⟨_, List.mem_map.2 ⟨y, List.mem_of_mem_drop (List.mem_of_mem_take hy), rfl⟩, hbl⟩
  · have hns : ∀ fs, e ≠ .st fs := fun fs h => hs ⟨fs, h⟩
    have hch : chunks H e vs = vs.map (pureV H e) := by
      cases e with
      | st fs => exact absurd rfl (hns fs)
      | _ => rfl
    rw [hch] at ha hl ⊢
    have := C_pure hH hns ha hb hC
    have h1 : e.sz = 1 ∨ vs = [] := by
      cases vs with
      | nil => exact .inr rfl
      | cons v vs =>
        left
        simp only [List.length_map] at hl
        have : (v :: vs).length ≠ 0 := by simp
        have h2 : (v :: vs).length * e.sz = (v :: vs).length * 1 := by omega
        exact Nat.eq_of_mul_eq_mul_left (by omega) h2
    rcases h1 with h1 | rfl
    · rwa [h1]
    · simp only [List.map_nil, C] at this ⊢
      exact this

theorem C_oneCells' {e : ETy} {m : Nat} : ∀ {vs : List AV} {cs : List Value}, vs.all (wt e) = true → C W ok R m vs cs → ∀ w, w ∈ cs → w.oneCell' = true
  | [], cs, _, h => by simp only [C] at h; simp [h]
  | y :: ys, cs, ha, h => by
    simp only [List.all_cons, Bool.and_eq_true] at ha
    simp only [C] at h
    obtain ⟨c, d, e', hm, hx, hd⟩ := h
    subst e'
    intro w hw
    rcases List.mem_append.1 hw with hw | hw
    · exact (wt_cells ha.1 hx).2 w hw
    · exact C_oneCells' ha.2 hd w hw

theorem stVal_ok (hT : TabOk P tab) {ct : FuncId → Option Ctr} {o : Oper} {ev : Operand → AV} {t : TypeId} {pa px : Operand} (ho : o.op = .store t pa px) {H1 : List Blk} (h : stVal tab H t (ev pa) (ev px) = some (true, H1)) (hnb : ∀ b sz i off, ev pa = .ptr b sz i off → b ∉ refOf (ev px)) :
    OpS P o ev H (trOf H (refOf (ev px))) (.tup []) (killH H1 (refOf (ev px))) := by
  unfold stVal at h
  split at h
  · rename_i d b sz i off hd hev
    have hnb' := hnb b sz i off hev
    split at h
    · simp at h
    · rename_i ty k l hHb
      cases hc : (Nat.beq sz 1 && Nat.beq off 0)
      · simp [hc] at h
      · rw [hc, cond_true] at h
        rw [Bool.and_eq_true] at hc
        have hs : sz = 1 := Nat.eq_of_beq_eq_true hc.1
        have hof : off = 0 := Nat.eq_of_beq_eq_true hc.2
        subst hs hof
        split at h
        · rename_i k' n hpx
          cases hc2 : (ksame k k' && Nat.beq d.sz 1)
          · simp [hc2] at h
          · simp only [hc2, cond_true, Option.some.injEq, Prod.mk.injEq, true_and] at h
            subst h
            rw [Bool.and_eq_true] at hc2
            obtain rfl := ksame_eq hc2.1
            have hds : d.sz = 1 := Nat.eq_of_beq_eq_true hc2.2
            refine OpS.of_store hT ho hd hev (by rw [hHb]; rfl) rfl (by rw [hHb]; simp [Blk.len, wrI]) hnb' ?_
            intro W ok ρ u g hH hr hg hi
            rw [hpx, rel_int] at hr
            subst hr
            rw [hHb] at hi
            simp only [Blk.len] at hi
            obtain ⟨cur, hh, hp⟩ : ∃ cur, W.heap[g]? = some (.cells cur ty (0, 0)) ∧ Pre cur (l.map (.int k)) := by
              have := hH.blk b
              rwa [hHb, hg] at this
            have hlen := Pre_len hp
            simp only [List.length_map] at hlen
            refine ⟨cur, ty, hh, by simp [Value.cells, hds], by omega, by simp [Value.cells, Value.oneCell'], ?_⟩
            intro W' _ _ hh'
            refine ⟨_, hh', ?_⟩
            simp only [Nat.mul_one, Nat.add_zero]
            have hpp := Pre_put (vs := (Value.cells (.int k n)).toList) (o := i) hp (by simp [Value.cells]; omega)
            rcases hpp with hpp | hpp
            · have e : (wrI l i n).map (Value.int k) = (l.map (.int k)).take i ++ (Value.cells (.int k n)).toList ++ (l.map (.int k)).drop (i + (Value.cells (.int k n)).toList.length) := by
                unfold wrI
                rw [List.set_eq_take_append_cons_drop, if_pos hi]
                simp [Value.cells, List.map_take, List.map_drop]
              rw [e]
              exact hpp
            · simp at hpp
              omega
        · rename_i vs hpx
          cases hc2 : (allInt k vs && Nat.beq i 0 && Nat.beq d.sz vs.length)
          · simp [hc2] at h
          · simp only [hc2, cond_true, Option.some.injEq, Prod.mk.injEq, decide_eq_true_eq] at h
            obtain ⟨hll, rfl⟩ := h
            simp only [Bool.and_eq_true] at hc2
            have hi0 : i = 0 := Nat.eq_of_beq_eq_true hc2.1.2
            have hds : d.sz = vs.length := Nat.eq_of_beq_eq_true hc2.2
            subst hi0
            refine OpS.of_store hT ho hd hev (by rw [hHb]; rfl) rfl (by rw [hHb]; simp [Blk.len, hll]) hnb' ?_
            intro W ok ρ u g hH hr hg hi
            rw [hpx, rel_agg] at hr
            obtain ⟨cs, rfl, hC⟩ := hr
            have hcs := C_ints hc2.1.1 hC
            obtain ⟨cur, hh, hp⟩ : ∃ cur, W.heap[g]? = some (.cells cur ty (0, 0)) ∧ Pre cur (l.map (.int k)) := by
              have := hH.blk b
              rwa [hHb, hg] at this
            have hlen := Pre_len hp
            simp only [List.length_map] at hlen
            have hsz : cs.size = vs.length := by rw [← Array.length_toList, hcs]; simp
            refine ⟨cur, ty, hh, by simp [Value.cells, hds, hsz], by omega, ?_, ?_⟩
            · intro w hw
              simp only [Value.cells] at hw
              rw [hcs] at hw
              simp only [List.mem_map] at hw
              obtain ⟨n, _, rfl⟩ := hw
              rfl
            · intro W' _ _ hh'
              refine ⟨_, hh', ?_⟩
              have hpp := Pre_put (vs := cs.toList) (o := 0) hp (by simp; omega)
              rcases hpp with hpp | hpp
              · have e : (vs.map AV.toInt).map (Value.int k) = (l.map (Value.int k)).take 0 ++ cs.toList ++ (l.map (.int k)).drop (0 + cs.toList.length) := by
                  rw [hcs]
                  simp [hll]
                rw [e]
                simpa [Value.cells] using hpp
              · omega
        · simp at h
    · rename_i ty e l hHb
      cases hc : Nat.beq sz e.sz
      · simp [hc] at h
      · rw [hc, cond_true] at h
        have hs : sz = e.sz := Nat.eq_of_beq_eq_true hc
        subst hs
        have hblk : ∀ {W : World} {ok : Nat → Prop} {ρ : Nat → Option Nat} {g : Nat}, HeapOk W ok ρ H → ρ b = some g → (∀ x, x ∈ l → wt e x = true) ∧ ∃ cur ds, W.heap[g]? = some (.cells cur ty (0, 0)) ∧ Pre cur ds ∧ C W ok noLoc e.sz l ds := by
          intro W ok ρ g hH hg
          have := hH.blk b
          rwa [hHb, hg] at this
        -- a whole element
        have whole : off = 0 → d.sz = e.sz → wt e (pureV H e (ev px)) = true → H1 = hset H b (.A ty e (l.set i (pureV H e (ev px)))) → OpS P o ev H (trOf H (refOf (ev px))) (.tup []) (killH H1 (refOf (ev px))) := by
          rintro rfl hds hw rfl
          refine OpS.of_store hT ho hd hev (by rw [hHb]; rfl) rfl (by rw [hHb]; simp [Blk.len]) hnb' ?_
          intro W ok ρ u g hH hr hg hi
          rw [hHb] at hi
          simp only [Blk.len] at hi
          obtain ⟨hwt, cur, ds, hh, hp, hC⟩ := hblk hH hg
          have hx := (Rel0_pure hH (okv := okF ok ρ H (refOf (ev px))) (fun _ h => .inl h) hw (fun c g' hm hl hg => .inr ⟨c, hm, hl, hg⟩) hr).2
          have hcl := wt_cells hw hx
          have hlen := Pre_len hp
          have hdl := C_length _ _ _ hC
          have hbd : i * e.sz + e.sz ≤ ds.length := by
            rw [hdl, ← Nat.succ_mul]
            exact Nat.mul_le_mul_right _ hi
          refine ⟨cur, ty, hh, by rw [hds, ← hcl.1, Array.length_toList], by omega, hcl.2, ?_⟩
          intro W' hla _ hh'
          refine ⟨?_, _, ds.take (i * e.sz) ++ u.cells.toList ++ ds.drop (i * e.sz + u.cells.toList.length), hh', ?_, ?_⟩
          · intro x hx'
            rcases List.mem_or_eq_of_mem_set hx' with hx' | rfl
            · exact hwt x hx'
            · exact hw
          · rcases Pre_put (vs := u.cells.toList) (o := i * e.sz + 0) hp (by omega) with hpp | hpp
            · simpa using hpp
            · omega
          · rw [hcl.1]
            exact C_set (C_mono ⟨fun g hg => hla.keep g (.inl hg), hla.shape⟩ (fun _ h => .inl h) (fun _ _ h => h) _ _ _ hC) hi (X_mono hla (fun _ h => h) (fun _ _ h => h) _ _ hx) hcl.1
        split at h
        · split at h
          · rename_i vs hpx
            cases hc2 : (Nat.beq i 0 && Nat.beq off 0 && Nat.beq d.sz vs.length && Nat.beq ((chunks H e vs).length * e.sz) vs.length && (chunks H e vs).all (wt e))
            · rw [hc2, cond_false] at h
              simp at h
            · rw [hc2, cond_true] at h
              simp only [Option.some.injEq, Prod.mk.injEq, decide_eq_true_eq] at h
              obtain ⟨hll, rfl⟩ := h
              simp only [Bool.and_eq_true] at hc2
              have hi0 : i = 0 := Nat.eq_of_beq_eq_true hc2.1.1.1.1
              have ho0 : off = 0 := Nat.eq_of_beq_eq_true hc2.1.1.1.2
              have hds : d.sz = vs.length := Nat.eq_of_beq_eq_true hc2.1.1.2
              have hlz : (chunks H e vs).length * e.sz = vs.length := Nat.eq_of_beq_eq_true hc2.1.2
              have hall := hc2.2
              subst hi0 ho0
              refine OpS.of_store hT ho hd hev (by rw [hHb]; rfl) rfl (by rw [hHb]; simp [Blk.len, hll]) hnb' ?_
              intro W ok ρ u g hH hr hg hi
              obtain ⟨hwt, cur, ds, hh, hp, hC⟩ := hblk hH hg
              rw [hpx, rel_agg] at hr
              obtain ⟨cs, rfl, hCv⟩ := hr
              have hlen := Pre_len hp
              have hdl := C_length _ _ _ hC
              have hcv := C_length _ _ _ hCv
              simp only [Array.length_toList, Nat.mul_one] at hcv
              rw [hll, hlz] at hdl
              have hpure := C_chunks hH hall hlz (bs := refOf (ev px)) (by rw [hpx]; exact fun b h => h) hCv
              refine ⟨cur, ty, hh, by simp [Value.cells, hds, hcv], by omega, ?_, ?_⟩
              · intro w hw
                exact C_oneCells' hall hpure w (by simpa [Value.cells] using hw)
              · intro W' hla _ hh'
                refine ⟨fun x hx => List.all_eq_true.1 hall x hx, _, cs.toList, hh', ?_, C_mono hla (fun _ h => h) (fun _ _ h => h) _ _ _ hpure⟩
                rcases Pre_put (vs := cs.toList) (o := 0) hp (by simp; omega) with hpp | hpp
                · have e' : cs.toList = ds.take 0 ++ cs.toList ++ ds.drop (0 + cs.toList.length) := by
                    have : ds.length = cs.toList.length := by simp; omega
                    simp [← this]
                  rw [e']
                  simpa [Value.cells] using hpp
                · omega
          · simp at h
        · cases hc2 : (Nat.beq off 0 && Nat.beq d.sz e.sz && wt e (pureV H e (ev px)))
          · simp [hc2] at h
          · simp only [hc2, cond_true, Option.some.injEq, Prod.mk.injEq, true_and] at h
            simp only [Bool.and_eq_true] at hc2
            exact whole (Nat.eq_of_beq_eq_true hc2.1.1) (Nat.eq_of_beq_eq_true hc2.1.2) hc2.2 h.symm
        · split at h
          · rename_i fs
            split at h
            · rename_i fe hfe
              cases hc2 : (wt fe (pureV H fe (ev px)) && Nat.beq d.sz 1 && Nat.beq fe.sz 1)
              · simp [hc2] at h
              · simp only [hc2, cond_true, Option.some.injEq, Prod.mk.injEq, true_and] at h
                subst h
                simp only [Bool.and_eq_true] at hc2
                have hw := hc2.1.1
                have hds : d.sz = 1 := Nat.eq_of_beq_eq_true hc2.1.2
                have hfs1 : fe.sz = 1 := Nat.eq_of_beq_eq_true hc2.2
                have hof : off < fs.length := (List.getElem?_eq_some_iff.1 hfe).1
                refine OpS.of_store hT ho hd hev (by rw [hHb]; rfl) rfl (by rw [hHb]; simp [Blk.len]) hnb' ?_
                intro W ok ρ u g hH hr hg hi
                rw [hHb] at hi
                simp only [Blk.len] at hi
                obtain ⟨hwt, cur, ds, hh, hp, hC⟩ := hblk hH hg
                have hx := (Rel0_pure hH (okv := okF ok ρ H (refOf (ev px))) (fun _ h => .inl h) hw (fun c g' hm hl hg => .inr ⟨c, hm, hl, hg⟩) hr).2
                have hcl := wt_cells hw hx
                rw [hfs1] at hcl
                have hlen := Pre_len hp
                have hdl := C_length _ _ _ hC
                have hsz : (ETy.st fs).sz = fs.length := rfl
                rw [hsz] at hdl hC
                have hbd : i * fs.length + fs.length ≤ ds.length := by
                  rw [hdl, ← Nat.succ_mul]
                  exact Nat.mul_le_mul_right _ hi
                have hcs : u.cells.size = 1 := by rw [← Array.length_toList]; exact hcl.1
                refine ⟨cur, ty, hh, by rw [hds, hcs], by rw [hsz]; omega, hcl.2, ?_⟩
                intro W' hla _ hh'
                have hel := hwt _ (aget_mem l i hi)
                have hflds : aget l i = .agg (etaL fs 0 (aget l i).flds) := by
                  have := eta_wt _ _ hel
                  simp only [eta] at this
                  exact this.symm
                generalize hfl : etaL fs 0 (aget l i).flds = fl at hflds
                have hfll : fl.length = fs.length := by rw [← hfl, etaL_length]
                have hwl : wtL fs fl = true := by
                  rw [hflds] at hel
                  simpa [wt] using hel
                refine ⟨?_, _, ds.take (i * fs.length + off) ++ u.cells.toList ++ ds.drop (i * fs.length + off + u.cells.toList.length), hh', ?_, ?_⟩
                · intro x hx'
                  rcases List.mem_or_eq_of_mem_set hx' with hx' | rfl
                  · exact hwt x hx'
                  · simp only [wt, asetN_eq]
                    exact wtL_set hwl hfe hw
                · rcases Pre_put (vs := u.cells.toList) (o := i * fs.length + off) hp (by rw [hcl.1]; omega) with hpp | hpp
                  · exact hpp
                  · omega
                · have hxi := C_at _ _ _ hC i hi
                  rw [hflds] at hxi
                  simp only [X] at hxi
                  have hla0 : Later W W' ok := ⟨fun g hg => hla.keep g (.inl hg), hla.shape⟩
                  have hxi' := C_mono hla0 (ok' := okF ok ρ H (refOf (ev px))) (fun _ h => .inl h) (fun _ _ h => h) _ _ _ hxi
                  have hcell := C_set (i := off) hxi' (by omega) (X_mono hla (fun _ h => h) (fun _ _ h => h) _ _ hx) hcl.1
                  have hrow := C_set (i := i) (C_mono hla0 (ok' := okF ok ρ H (refOf (ev px))) (fun _ h => .inl h) (fun _ _ h => h) _ _ _ hC) hi (y := .agg (asetN fl off (pureV H fe (ev px)))) (c := ((ds.drop (i * fs.length)).take fs.length).take (off * 1) ++ u.cells.toList ++ ((ds.drop (i * fs.length)).take fs.length).drop (off * 1 + 1)) (by simp only [X]; rw [asetN_eq]; exact hcell) (by
                    simp only [List.length_append, List.length_take, List.length_drop]
                    omega)
                  rw [hsz]
                  have e : ds.take (i * fs.length) ++ (((ds.drop (i * fs.length)).take fs.length).take (off * 1) ++ u.cells.toList ++ ((ds.drop (i * fs.length)).take fs.length).drop (off * 1 + 1)) ++ ds.drop (i * fs.length + fs.length) = ds.take (i * fs.length + off) ++ u.cells.toList ++ ds.drop (i * fs.length + off + u.cells.toList.length) := by
                    rw [hcl.1, Nat.mul_one]
                    generalize i * fs.length = p at hbd ⊢
                    generalize fs.length = m at hbd hof ⊢
                    have h1 : ds.take (p + off) = ds.take p ++ ((ds.drop p).take m).take off := by
                      rw [List.take_take, Nat.min_eq_left (by omega), List.take_add]
                    have h2 : ds.drop (p + off + 1) = ((ds.drop p).take m).drop (off + 1) ++ ds.drop (p + m) := by
                      rw [List.drop_take, List.drop_drop, ← List.take_append_drop (m - (off + 1)) (ds.drop (p + off + 1)), List.drop_drop]
                      congr 2
                      · omega
                    rw [h1, h2]
                    simp
                  rw [← e]
                  exact hrow
            · simp at h
          · cases hc2 : (Nat.beq off 0 && Nat.beq d.sz e.sz && wt e (pureV H e (ev px)))
            · simp [hc2] at h
            · simp only [hc2, cond_true, Option.some.injEq, Prod.mk.injEq, true_and] at h
              simp only [Bool.and_eq_true] at hc2
              exact whole (Nat.eq_of_beq_eq_true hc2.1.1) (Nat.eq_of_beq_eq_true hc2.1.2) hc2.2 h.symm
  · simp at h
end
end Go.RX
