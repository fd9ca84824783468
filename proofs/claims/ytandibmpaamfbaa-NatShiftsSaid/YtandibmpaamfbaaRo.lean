/- Rows and literals that are made; append; copy. -/
import Derived.Test.YtandibmpaamfbaaRn
import Derived.Laws.NewFold
import Derived.IntWalk
set_option linter.unusedVariables false
set_option linter.unusedSimpArgs false
namespace Go.RX
section
variable {P : Program} {tab : Tab} {W W' W1 : World} {ok ok' okv : Nat → Prop} {ρ ρ' : Nat → Option Nat} {H H' : List Blk} {R R' : Nat → Option Loc}

theorem okF_nil {g : Nat} : okF ok ρ H [] g ↔ ok g := by
  unfold okF
  constructor
  · rintro (h | ⟨b, hb, _⟩)
    · exact h
    · simp at hb
  · exact .inl

theorem later_alloc (hs : SameHeap W W1) (hH : HeapOk W ok ρ H) (o : Obj) : Later W (W1.alloc o) ok :=
  ⟨fun g hg => by rw [alloc_keep W1 o (by rw [hs.heap]; exact hH.lt g hg), hs.heap], fun g T m hsh => shape_alloc W1 o ((hs.later ok).shape g T m hsh)⟩

theorem OpS.box (hT : TabOk P tab) {o : Oper} {ev : Operand → AV} {t : TypeId} {px : Operand} (ho : o.op = .box t px) {sz : Nat} {blk : Blk} (h : mkVar tab H t (ev px) = some (sz, blk)) (hrf : refOf (ev px) = []) :
    OpS P o ev H .id (.ptr H.length sz 0 0) (H ++ [blk]) := by
  refine OpS.of_new (bs := []) ?_
  intro W ok ρ rv hr hH
  have hrx := hr px (by rw [ho]; simp [Op.operands])
  obtain ⟨h1, h2, h3⟩ := mkVar_ok hT h hrf hH hrx
  have hl : Later W (W.alloc (.cells (rv px).cells t)) ok := later_alloc (SameHeap.refl W) hH _
  refine ⟨W, (rv px).cells, t, .pointer (some ⟨W.heap.size, 0, none⟩), SameHeap.refl W, ?_, ?_, ?_⟩
  · obtain ⟨dst, op, ty', pos, after, guard⟩ := o
    simp only at ho
    subst ho
    simp [execOp, Instr.box, newVar, newRow]
  · exact (h3 _ hl (alloc_new W _)).mono (Later.refl _ _) (fun _ h => .inl h) (fun _ _ _ => rfl)
  · rw [rel_ptr]
    exact ⟨_, W.heap.size, locs_new h1, rfl, by simp, h2⟩

theorem OpS.alloc (hT : TabOk P tab) {o : Oper} {ev : Operand → AV} {t : TypeId} (ho : o.op = .alloc t) {d : TyD} (hd : tab t = some d) {sz : Nat} {blk : Blk} (h : mkVar tab H t d.zero = some (sz, blk)) (hrf : refOf d.zero = []) :
    OpS P o ev H .id (.ptr H.length sz 0 0) (H ++ [blk]) := by
  refine OpS.of_new (bs := []) ?_
  intro W ok ρ rv hr hH
  obtain ⟨z, hz⟩ := hT _ _ hd
  obtain ⟨h1, h2, h3⟩ := mkVar_ok hT h hrf hH (Rel_of_Rel0 (hz.zero W ok (locs ρ H)))
  have hl : Later W (W.alloc (.cells z.cells t)) ok := later_alloc (SameHeap.refl W) hH _
  refine ⟨W, z.cells, t, .pointer (some ⟨W.heap.size, 0, none⟩), SameHeap.refl W, ?_, ?_, ?_⟩
  · obtain ⟨dst, op, ty', pos, after, guard⟩ := o
    simp only at ho
    subst ho
    simp [execOp, Instr.alloc, hz.zeroValue, newVar, newRow]
  · exact (h3 _ hl (alloc_new W _)).mono (Later.refl _ _) (fun _ h => .inl h) (fun _ _ _ => rfl)
  · rw [rel_ptr]
    exact ⟨_, W.heap.size, locs_new h1, rfl, by simp, h2⟩

/-! ### rows -/
theorem rel_new {blk : Blk} (hb : blk.live = true) {sz n c : Nat} {W2 : World} {ok2 : Nat → Prop} {g T : Nat} {m : Nat} (hn : n = blk.len) (hnc : n ≤ c) (hsh : W2.shape? g = some (T, m)) (hm : c * sz ≤ m) {H0 : List Blk} (h0 : H0.length = H.length) :
    Rel W2 ok2 (locs (upd ρ H.length (some g)) (H0 ++ [blk])) (.vec H.length sz) (.slice (some ⟨g, 0, none⟩) n c) := by
  rw [rel_vec, ← h0]
  exact ⟨_, locs_new hb, .inr ⟨g, c, T, m, rfl, by rw [hn], by rw [← hn]; exact hnc, hsh, hm⟩⟩

theorem shape_new (W1 : World) (cur : Array Value) (ty : TypeId) : (W1.alloc (.cells cur ty)).shape? W1.heap.size = some (ty, cur.size) := by
  unfold World.shape?
  rw [alloc_new]

theorem madeCells_get (z : Array Value) (n : Nat) (hz : 0 < z.size) (j : Nat) (hj : j < n * z.size) : ((Array.range (n * z.size)).map (fun i => z[i % z.size]!))[j]? = z[j % z.size]? := by
  have hm : j % z.size < z.size := Nat.mod_lt _ hz
  simp [Array.getElem?_map, Array.getElem?_range, hj, hm]

theorem C_replicate {m : Nat} {z : AV} {zc : List Value} (hz : X W ok R z zc) (hl : zc.length = m) : ∀ n : Nat, C W ok R m (List.replicate n z) (List.replicate n zc).flatten
  | 0 => by simp [C]
  | n + 1 => by
    simp only [List.replicate_succ, List.flatten_cons, C]
    exact ⟨zc, _, rfl, hl, hz, C_replicate hz hl n⟩

theorem flatten_replicate_get {zc : List Value} {m : Nat} (hl : zc.length = m) (hm : 0 < m) : ∀ (n j : Nat), j < n * m → ((List.replicate n zc).flatten)[j]? = zc[j % m]?
  | 0, j, h => by simp at h
  | n + 1, j, h => by
    simp only [List.replicate_succ, List.flatten_cons]
    rw [List.getElem?_append, hl]
    split
    · rename_i hj
      rw [Nat.mod_eq_of_lt hj]
    · rename_i hj
      rw [flatten_replicate_get hl hm n (j - m) (by rw [Nat.succ_mul] at h; omega)]
      congr 1
      conv => rhs; rw [show j = j - m + m from by omega, Nat.add_mod_right]

/-- What a row of one zero holds. -/
theorem mkRow_one (hT : TabOk P tab) {e : TypeId} {d : TyD} (hd : tab e = some d) {x : AV} {blk : Blk} (h : mkRow e d [x] = some blk) : (∃ k z, blk = .I e k [z] ∧ d.sz = 1 ∧ x = .int k z) ∨ (blk = .A e d.ety [x] ∧ wt d.ety x = true ∧ d.ety.sz = d.sz) := by
  obtain ⟨z, hz⟩ := hT _ _ hd
  unfold mkRow at h
  split at h
  · rename_i k hk
    cases ha : allInt k [x]
    · simp [ha] at h
    · rw [ha, cond_true] at h
      simp only [Option.some.injEq] at h
      left
      have hx : ∃ n, x = .int k n := by
        cases x <;> simp [allInt] at ha
        exact ⟨_, by rw [ksame_eq ha]⟩
      obtain ⟨n, rfl⟩ := hx
      refine ⟨k, n, by rw [← h]; rfl, ?_, rfl⟩
      have h1 := hz.size
      have hwt := hz.wt
      have hzero := hz.agg
      rw [hk] at hzero
      have hr := hz.zero ⟨#[], fun _ _ => 0, 0, default, #[]⟩ (fun _ => True) noLoc
      unfold Rel0 at hr
      rw [← hzero] at hr
      simp only [TK.isAgg, lift, Bool.false_eq_true, if_false] at hr
      have hx := X_fit d.ety d.zero _ hr
      have := wt_cells hwt hx
      rw [← h1]
      simpa using this.1.symm
  · cases ha : ([x].all (wt d.ety))
    · rw [ha, cond_false] at h; simp at h
    · rw [ha, cond_true] at h
      simp only [Option.some.injEq] at h
      right
      exact ⟨h.symm, by simpa using ha, hz.size⟩

theorem blk_same {blk : Blk} {g : Option Nat} (h : BlkOk W ok g blk) : BlkOk W (okF ok ρ H []) g blk := h.mono (Later.refl _ _) (fun _ h => .inl h) (fun _ _ _ => rfl)

theorem madeRow {z : Array Value} {m : Nat} (hz : z.size = m) (hm : 0 < m) (n : Nat) : Pre ((Array.range (n * m)).map (fun i => z[i % z.size]!)) (List.replicate n z.toList).flatten := by
  intro j u hu
  have hjl : j < n * m := by
    have := (List.getElem?_eq_some_iff.1 hu).1
    simp only [List.length_flatten, List.map_replicate, Array.length_toList, hz] at this
    rwa [List.sum_replicate_nat] at this
  rw [flatten_replicate_get (m := m) (by simpa using hz) hm n j hjl, Array.getElem?_toList] at hu
  rw [← hz] at hjl ⊢
  rw [madeCells_get z n (by omega) j hjl]
  rwa [hz]

theorem makeSlice_run (hT : TabOk P tab) {t e : TypeId} {d0 d : TyD} {z : Value} (ht : tab t = some d0) (hk : d0.tk = .slice e) (hz : TyOk P e d z) {n : Int} (h0 : 0 ≤ n) (hlim : n * d.bytes ≤ 281474976710656) (hb : 0 < d.bytes) :
    (Instr.makeSlice t (.int .i64 n) (.int .i64 n)).run P W = .ok (.slice (some ⟨W.heap.size, 0, none⟩) n.toNat n.toNat)
      (W.alloc (.cells ((Array.range (n.toNat * d.sz)).map (fun i => (if n.toNat * d.sz = 0 then #[] else z.cells)[i % (if n.toNat * d.sz = 0 then #[] else z.cells).size]!)) e)) := by
  obtain ⟨z0, hz0⟩ := hT _ _ ht
  have hdesc : P.underlying t = some (.slice e) := by have := hz0.desc; rwa [hk] at this
  have hnb : n ≤ 281474976710656 := by
    have : n * 1 ≤ n * d.bytes := Int.mul_le_mul_of_nonneg_left (by omega) h0
    omega
  have hwrap : IntKind.i64.wrap n = n := IntWalk.i64_in n (by omega)
  obtain ⟨i, hi, hi1, hi2, hi3⟩ := hz.typeInfo W
  have hlt : ¬ (n < 0) := by omega
  have hcm : (d.bytes : Int) * n ≤ 281474976710656 := by rw [Int.mul_comm]; exact hlim
  have hl2 : ¬ ((d.bytes : Int) * n > 281474976710656) := by omega
  simp only [Instr.makeSlice, Sem.run_bind, run_underlying hdesc, Result.andThen_ok, asInt, asIntOf, Sem.run_pure, hi, hi2, hwrap]
  rw [if_neg (by simp [hlt, hl2])]
  simp only [Sem.run_bind, run_askRoom, Result.andThen_ok, hz.sizeOf, Sem.run_pure]
  by_cases hn0 : n.toNat * d.sz = 0
  · simp [hn0, newRow]
  · simp [hn0, newRow, hz.zeroValue]

theorem OpS.makeSlice (hT : TabOk P tab) {o : Oper} {ev : Operand → AV} {t e : TypeId} {l c : Operand} (ho : o.op = .makeSlice t l c) {d0 d : TyD} (ht : tab t = some d0) (hk : d0.tk = .slice e) (hd : tab e = some d) {n : Int} (hl : ev l = .int .i64 n) (hc : ev c = .int .i64 n)
    (h0 : 0 ≤ n) (hlim : n * d.bytes ≤ 281474976710656) (hb : 0 < d.bytes) {blk : Blk} {sz : Nat}
    (hblk : (∃ k z, fitE d.ety d.zero = .int k z ∧ d.sz = 1 ∧ blk = .I e k (List.replicate n.toNat z) ∧ sz = 1) ∨ (wt d.ety (fitE d.ety d.zero) = true ∧ blk = .A e d.ety (List.replicate n.toNat (fitE d.ety d.zero)) ∧ sz = d.ety.sz)) :
    OpS P o ev H .id (.vec H.length sz) (H ++ [blk]) := by
  obtain ⟨z, hz⟩ := hT _ _ hd
  refine OpS.of_new (bs := []) ?_
  intro W ok ρ rv hr hH
  have hrl := hr l (by rw [ho]; simp [Op.operands])
  have hrc := hr c (by rw [ho]; simp [Op.operands])
  rw [hl, rel_int] at hrl
  rw [hc, rel_int] at hrc
  have hrun := makeSlice_run (W := W) hT ht hk hz h0 hlim hb
  generalize hcur : ((Array.range (n.toNat * d.sz)).map (fun i => (if n.toNat * d.sz = 0 then #[] else z.cells)[i % (if n.toNat * d.sz = 0 then #[] else z.cells).size]!)) = cur at hrun
  have hcsz : cur.size = n.toNat * d.sz := by rw [← hcur]; simp
  -- the zero's cells
  have hzx : ∀ W ok R, X W ok R (fitE d.ety d.zero) z.cells.toList := by
    intro W ok R
    have := hz.zero W ok R
    unfold Rel0 lift at this
    cases ha : d.zero.isAgg
    · simp only [ha, Bool.false_eq_true, if_false] at this
      have hx := X_fit d.ety _ _ this
      have hp : plain (fitE d.ety d.zero) = true := by
        have h1 : (fitE d.ety d.zero).isAgg = false := by rw [isAgg_fit]; exact ha
        have hwt := hz.wt
        cases hy : fitE d.ety d.zero <;> simp only [hy, AV.isAgg, Bool.true_eq_false, wt_dead, wt_tup, Bool.false_eq_true] at h1 hwt <;> rfl
      obtain ⟨u, e1, e2, _⟩ := X_one hp hx
      simp only [List.cons.injEq, and_true] at e1
      rw [e1, e2, ← e1]
      exact hx
    · simp only [ha, if_true] at this
      obtain ⟨cs, rfl, hx⟩ := this
      exact X_fit d.ety _ _ hx
  have hzl : z.cells.size = d.sz := by
    have := (wt_cells hz.wt (hzx W ok noLoc)).1
    rw [← hz.size, ← this, Array.length_toList]
  have hpre : Pre cur (List.replicate n.toNat z.cells.toList).flatten := by
    by_cases hn0 : n.toNat * d.sz = 0
    · have : n.toNat = 0 := by
        rcases Nat.mul_eq_zero.1 hn0 with h | h
        · exact h
        · have := hz.pos; omega
      rw [this]
      intro j u hu
      simp at hu
    · rw [← hcur]
      simp only [hn0, if_false]
      exact madeRow hzl hz.pos n.toNat
  have hl2 : Later W (W.alloc (.cells cur e)) ok := later_alloc (SameHeap.refl W) hH _
  have hlive : blk.live = true ∧ blk.len = n.toNat ∧ BlkOk (W.alloc (.cells cur e)) ok (some W.heap.size) blk ∧ sz = d.sz := by
    rcases hblk with ⟨k, zz, hzz, hs1, rfl, rfl⟩ | ⟨hw, rfl, rfl⟩
    · refine ⟨rfl, by simp [Blk.len], ⟨cur, alloc_new W _, ?_⟩, hs1.symm⟩
      have h1 := hzx W ok noLoc
      rw [hzz] at h1
      simp only [X] at h1
      rw [h1] at hpre
      have : (List.replicate n.toNat [Value.int k zz]).flatten = (List.replicate n.toNat zz).map (.int k) := by
        generalize n.toNat = m
        induction m with
        | zero => rfl
        | succ m ih => simp only [List.replicate_succ, List.flatten_cons, List.map_cons, ih]; rfl
      rwa [this] at hpre
    · refine ⟨rfl, by simp [Blk.len], ⟨fun x hx => by rw [List.eq_of_mem_replicate hx]; exact hw, cur, _, alloc_new W _, hpre, ?_⟩, hz.size⟩
      exact C_replicate (hzx _ _ _) (by rw [hz.size, Array.length_toList]; exact hzl) _
  refine ⟨W, cur, e, .slice (some ⟨W.heap.size, 0, none⟩) n.toNat n.toNat, SameHeap.refl W, ?_, blk_same hlive.2.2.1, ?_⟩
  · obtain ⟨dst, op, ty', pos, after, guard⟩ := o
    simp only at ho
    subst ho
    simp [execOp, hrl, hrc, hrun]
  · refine rel_new hlive.1 hlive.2.1.symm (Nat.le_refl _) (shape_new W cur e) (by rw [hcsz, hlive.2.2.2]; omega) rfl

/-! ### slice literals -/
theorem fill_asc {size : Nat} : ∀ (parts : List (Nat × Value)) (k : Nat) (cells : Array Value), (∀ j p, parts[j]? = some p → p.1 = k + j ∧ p.2.cells.size = size) → cells.size = (k + parts.length) * size →
    ∃ out, Instr.fill (fun i => some (i * size, size)) cells parts = some out ∧ out.toList = cells.toList.take (k * size) ++ (parts.map fun p => p.2.cells.toList).flatten
  | [], k, cells, _, hs => by
    refine ⟨cells, rfl, ?_⟩
    rw [List.take_of_length_le (by simp [hs])]
    simp
  | (i, v) :: r, k, cells, h, hs => by
    have h0 := h 0 (i, v) rfl
    simp only [Nat.add_zero] at h0
    obtain ⟨rfl, hv⟩ := h0
    simp only [List.length_cons] at hs
    have hle : i * size + size ≤ cells.size := by
      rw [hs, ← Nat.succ_mul]
      exact Nat.mul_le_mul_right _ (by omega)
    have hf := fold_set v.cells.toList (i * size) 0 cells (by simp; omega)
    have hf' : v.cells.zipIdx.foldl (fun cs (x : Value × Nat) => match x with | (c, j) => cs.setIfInBounds (i * size + j) c) cells = (cells.toList.take (i * size) ++ v.cells.toList ++ cells.toList.drop (i * size + v.cells.size)).toArray := by
      rw [← Array.foldl_toList]
      simpa using hf
    simp only [Instr.fill]
    rw [if_neg (by simp only [Bool.or_eq_true, decide_eq_true_eq, ne_eq]; omega), hf']
    obtain ⟨out, h1, h2⟩ := fill_asc r (i + 1) _ (fun j p hp => by
      have := h (j + 1) p (by simpa using hp)
      exact ⟨by omega, this.2⟩) (show ((cells.toList.take (i * size) ++ v.cells.toList ++ cells.toList.drop (i * size + v.cells.size)).toArray).size = _ by
        have hc : v.cells.toList.length = size := by simpa using hv
        have h3 : (i + 1 + r.length) = i + (r.length + 1) := by omega
        rw [h3, ← hs]
        simp
        omega)
    refine ⟨out, h1, ?_⟩
    rw [h2]
    have e1 : (i + 1) * size = i * size + size := Nat.succ_mul _ _
    simp only [List.map_cons, List.flatten_cons]
    rw [← List.append_assoc]
    congr 1
    rw [e1]
    have hvl : v.cells.toList.length = size := by simpa using hv
    have htl : (cells.toList.take (i * size)).length = i * size := by simp; omega
    rw [List.take_append_of_le_length (by simp; omega), List.take_of_length_le (by simp; omega)]

theorem pure_int {e : ETy} {x : AV} {k : IntKind} {n : Int} (h : pureV H e x = .int k n) : x = .int k n := by
  have key : ∀ (e : ETy) (y : AV), fitE e y = .int k n → y = .int k n := by
    intro e y h
    cases e with
    | sl e =>
      cases y with
      | nilS => cases e <;> simp [fitE] at h
      | int k' n' => exact h
      | _ => cases h
    | st fs =>
      cases y with
      | int k' n' => exact h
      | _ => cases h
    | _ => exact h
  unfold pureV at h
  have h1 := key _ _ h
  split at h1
  · simp at h1
  · cases x with
    | vec b sz => simp only [view] at h1; split at h1 <;> simp at h1
    | ref b sz off len cap =>
      simp only [view] at h1
      split at h1
      · cases hs : Nat.beq sz 1 <;> simp [hs] at h1
      · rename_i e' _ _
        cases hs : Nat.beq sz e'.sz <;> simp [hs] at h1
      · simp at h1
    | _ => exact h1

theorem ascP_at : ∀ {l : List (Nat × AV)} {n : Nat}, ascP n l = true → ∀ j p, l[j]? = some p → p.1 = n + j
  | [], n, _, j, p, h => by simp at h
  | (i, x) :: r, n, ha, 0, p, h => by
    simp only [ascP, Bool.and_eq_true] at ha
    simp only [List.getElem?_cons_zero, Option.some.injEq] at h
    subst h
    exact Nat.eq_of_beq_eq_true ha.1
  | (i, x) :: r, n, ha, j + 1, p, h => by
    simp only [ascP, Bool.and_eq_true] at ha
    have := ascP_at ha.2 j p (by simpa using h)
    omega

theorem mkRow_cases (hT : TabOk P tab) {e : TypeId} {d : TyD} (hd : tab e = some d) {l : List AV} {blk : Blk} (h : mkRow e d l = some blk) : (∃ k, d.tk = .int k ∧ blk = .I e k (l.map AV.toInt) ∧ allInt k l = true) ∨ (blk = .A e d.ety l ∧ l.all (wt d.ety) = true) := by
  unfold mkRow at h
  split at h
  · rename_i k hk
    cases ha : allInt k l
    · simp [ha] at h
    · rw [ha, cond_true] at h
      simp only [Option.some.injEq] at h
      exact .inl ⟨k, hk, h.symm, ha⟩
  · cases ha : l.all (wt d.ety)
    · rw [ha, cond_false] at h; simp at h
    · rw [ha, cond_true] at h
      simp only [Option.some.injEq] at h
      exact .inr ⟨h.symm, rfl⟩

theorem int_sz (hT : TabOk P tab) {e : TypeId} {d : TyD} (hd : tab e = some d) {k : IntKind} (hk : d.tk = .int k) : d.sz = 1 := by
  obtain ⟨z, hz⟩ := hT _ _ hd
  have hr := hz.zero ⟨#[], fun _ _ => 0, 0, default, #[]⟩ (fun _ => True) noLoc
  have hzero := hz.agg
  rw [hk] at hzero
  unfold Rel0 at hr
  rw [← hzero] at hr
  simp only [TK.isAgg, lift, Bool.false_eq_true, if_false] at hr
  have hx := X_fit d.ety d.zero _ hr
  have := (wt_cells hz.wt hx).1
  rw [← hz.size]
  simpa using this.symm

theorem OpS.buildSlice (hT : TabOk P tab) {o : Oper} {ev : Operand → AV} {t e : TypeId} {len : Nat} {parts : Array (Nat × Operand)} (ho : o.op = .buildSlice t len parts) {d0 d : TyD} (ht : tab t = some d0) (hk : d0.tk = .slice e) (hd : tab e = some d)
    (ha : ascP 0 (parts.toList.map fun p => (p.1, pureV H d.ety (ev p.2))) = true) (hlen : parts.toList.length = len) (hlim : len * d.sz ≤ 16777216) {blk : Blk} (hb : mkRow e d (parts.toList.map fun p => pureV H d.ety (ev p.2)) = some blk)
    {bs : List Nat} (hbs : bs = (parts.toList.map fun p => refOf (ev p.2)).flatten) :
    OpS P o ev H (trOf H bs) (.vec H.length d.sz) (killH H bs ++ [blk]) := by
  obtain ⟨z0, hz0⟩ := hT _ _ ht
  obtain ⟨z, hz⟩ := hT _ _ hd
  have hdesc : P.underlying t = some (.slice e) := by have := hz0.desc; rwa [hk] at this
  refine OpS.of_new ?_
  intro W ok ρ rv hr hH
  have hrp : ∀ p, p ∈ parts.toList → Rel W ok (locs ρ H) (ev p.2) (rv p.2) := fun p hp => hr p.2 (by rw [ho]; simp only [Op.operands, List.mem_map]; exact ⟨p, hp, rfl⟩)
  -- the parts' cells
  have hsub : ∀ p, p ∈ parts.toList → ∀ b, b ∈ refOf (ev p.2) → b ∈ bs := fun p hp b hb => by
    rw [hbs, List.mem_flatten]
    exact ⟨_, List.mem_map.2 ⟨p, hp, rfl⟩, hb⟩
  have hcase := mkRow_cases hT hd hb
  have hcell : ∀ p, p ∈ parts.toList → (rv p.2).cells.size = d.sz ∧ X W (okF ok ρ H bs) noLoc (pureV H d.ety (ev p.2)) (rv p.2).cells.toList := by
    intro p hp
    rcases hcase with ⟨k, hki, _, hall⟩ | ⟨_, hall⟩
    · have hm : pureV H d.ety (ev p.2) ∈ parts.toList.map fun p => pureV H d.ety (ev p.2) := List.mem_map.2 ⟨p, hp, rfl⟩
      have : ∃ n, pureV H d.ety (ev p.2) = .int k n := by
        obtain ⟨j, hj, hje⟩ := List.getElem_of_mem hm
        have := allInt_at hall j hj
        rw [aget_eq _ _ hj, hje] at this
        exact ⟨_, this⟩
      obtain ⟨n, hn⟩ := this
      have hx := pure_int hn
      have := hrp p hp
      rw [hx, rel_int] at this
      rw [this, hn, int_sz hT hd hki]
      exact ⟨rfl, by simp [X, Value.cells]⟩
    · have hw : wt d.ety (pureV H d.ety (ev p.2)) = true := List.all_eq_true.1 hall _ (List.mem_map.2 ⟨p, hp, rfl⟩)
      have hx := (Rel0_pure hH (okv := okF ok ρ H bs) (fun _ h => .inl h) hw (fun b g hbm hl hg => .inr ⟨b, hsub p hp b hbm, hl, hg⟩) (hrp p hp)).2
      refine ⟨?_, hx⟩
      have := (wt_cells hw hx).1
      rw [← hz.size, ← this, Array.length_toList]
  have hC : C W (okF ok ρ H bs) noLoc d.sz (parts.toList.map fun p => pureV H d.ety (ev p.2)) (parts.toList.map fun p => (rv p.2).cells.toList).flatten := by
    generalize parts.toList = L at hcell
    clear hrp hsub hcase hb ha hlen
    induction L with
    | nil => simp [C]
    | cons p ps ih =>
      simp only [List.map_cons, List.flatten_cons, C]
      have := hcell p (by simp)
      exact ⟨_, _, rfl, by simpa using this.1, this.2, ih (fun q hq => hcell q (by simp [hq]))⟩
  -- the run
  have hfill := fill_asc (size := d.sz) (parts.toList.map fun p => (p.1, rv p.2)) 0 ((Array.range (len * d.sz)).map (fun i => (if len * d.sz = 0 then #[] else z.cells)[i % (if len * d.sz = 0 then #[] else z.cells).size]!)) (by
    intro j p hp
    rw [List.getElem?_map] at hp
    obtain ⟨q, hq, rfl⟩ := Option.map_eq_some_iff.1 hp
    refine ⟨?_, (hcell q (List.mem_of_getElem? hq)).1⟩
    have := ascP_at ha j (q.1, pureV H d.ety (ev q.2)) (by rw [List.getElem?_map, hq]; rfl)
    exact this) (by simp [hlen])
  obtain ⟨out, hout, hol⟩ := hfill
  simp only [Nat.zero_mul, List.take_zero, List.nil_append, List.map_map] at hol
  have hol' : out.toList = (parts.toList.map fun p => (rv p.2).cells.toList).flatten := hol
  have hosz : out.size = len * d.sz := by
    have := C_length _ _ _ hC
    rw [← hol', Array.length_toList, List.length_map, hlen] at this
    exact this
  have hl2 : Later W (W.alloc (.cells out e)) (okF ok ρ H bs) := by
    have := later_alloc (SameHeap.refl W) (hH.freeze bs) (.cells out e)
    exact this
  have hblk : blk.live = true ∧ blk.len = len ∧ BlkOk (W.alloc (.cells out e)) (okF ok ρ H bs) (some W.heap.size) blk := by
    rcases hcase with ⟨k, hki, rfl, hall⟩ | ⟨rfl, hall⟩
    · refine ⟨rfl, by simp [Blk.len, hlen], ⟨out, alloc_new W _, ?_⟩⟩
      intro j w hw
      rw [← Array.getElem?_toList, hol']
      have hs1 := int_sz hT hd hki
      rw [hs1] at hC
      rw [C_ints hall hC]
      exact hw
    · refine ⟨rfl, by simp [Blk.len, hlen], ⟨fun x hx => List.all_eq_true.1 hall x hx, out, out.toList, alloc_new W _, ?_, ?_⟩⟩
      · intro j w hw
        rwa [Array.getElem?_toList] at hw
      · rw [hz.size, hol']
        exact C_mono hl2 (fun _ h => h) (fun _ _ h => h) _ _ _ hC
  refine ⟨W, out, e, .slice (some ⟨W.heap.size, 0, none⟩) len len, SameHeap.refl W, ?_, hblk.2.2, ?_⟩
  · obtain ⟨dst, op, ty', pos, after, guard⟩ := o
    simp only at ho
    subst ho
    have he : (parts.map fun (x : Nat × Operand) => match x with | (i, x) => (i, rv x)).toList = parts.toList.map fun p => (p.1, rv p.2) := by simp
    simp only [execOp, Instr.buildSlice, Sem.run_bind, run_underlying hdesc, Result.andThen_ok, hz.sizeOf]
    rw [if_neg (by omega)]
    by_cases hn0 : len * d.sz = 0
    · simp only [hn0, if_true, Sem.run_bind, Sem.run_pure, Result.andThen_ok, he] at hout ⊢
      rw [hout]
      simp [newRow]
    · simp only [hn0, if_false, Sem.run_bind, hz.zeroValue, Result.andThen_ok, Sem.run_pure, he] at hout ⊢
      rw [hout]
      simp [newRow]
  · exact rel_new hblk.1 hblk.2.1.symm (Nat.le_refl _) (shape_new W out e) (by rw [hosz]; omega) killH_length
end
end Go.RX
