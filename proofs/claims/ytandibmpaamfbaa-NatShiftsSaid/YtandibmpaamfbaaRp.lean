/- append and copy. -/
import Derived.Test.YtandibmpaamfbaaRo
set_option linter.unusedVariables false
set_option linter.unusedSimpArgs false
namespace Go.RX
section
variable {P : Program} {tab : Tab} {W W' W1 : World} {ok ok' okv : Nat → Prop} {ρ ρ' : Nat → Option Nat} {H H' : List Blk} {R R' : Nat → Option Loc}

theorem Rel0_of {x : AV} {u : Value} (h : Rel W ok R x u) (hd : x ≠ .dead) (ht : ∀ l, x ≠ .tup l) : Rel0 W ok R x u := by
  unfold Rel at h
  split at h
  · exact absurd rfl (ht _)
  · exact absurd rfl hd
  · exact h

theorem view_cases {x y : AV} (h : view H x = y) (hy : (∃ k l, y = .ints k l) ∨ (∃ e l, y = .list e l)) : x = y ∨ (∃ b sz, x = .vec b sz) ∨ (∃ b sz off len cap, x = .ref b sz off len cap) := by
  cases x with
  | vec b sz => exact .inr (.inl ⟨b, sz, rfl⟩)
  | ref b sz off len cap => exact .inr (.inr ⟨b, sz, off, len, cap, rfl⟩)
  | _ => exact .inl h

theorem els_I (hH : HeapOk W ok ρ H) {x : AV} {u : Value} {k : IntKind} {l : List Int} (h : view H x = .ints k l) (hr : Rel W ok (locs ρ H) x u) :
    ∃ A c, u = .slice A l.length c ∧ l.length ≤ c ∧ (l = [] ∨ ∃ ad, A = some ad ∧ At W ad (l.map (.int k))) := by
  have hnd : x ≠ .dead := by rintro rfl; simp [view] at h
  have hnt : ∀ l, x ≠ .tup l := by rintro l rfl; simp [view] at h
  have hna : x.isAgg = false := by cases x <;> simp [AV.isAgg] ; simp [view] at h
  have h0 := Rel0_of hr hnd hnt
  simp only [Rel0, lift, hna, Bool.false_eq_true, if_false] at h0
  have := X_view' hH (okv := fun _ => True) (fun _ _ => trivial) (fun _ _ _ _ _ => trivial) hna h0
  rw [h] at this
  simp only [X] at this
  obtain ⟨A, c, e, hc, hl⟩ := this
  simp only [List.cons.injEq, and_true] at e
  refine ⟨A, c, e, hc, ?_⟩
  rcases hl with hl | ⟨ad, ha, _, hat⟩
  · exact .inl hl
  · exact .inr ⟨ad, ha, hat⟩

theorem els_A (hH : HeapOk W ok ρ H) {x : AV} {u : Value} {e : ETy} {l : List AV} (h : view H x = .list e l) (hr : Rel W ok (locs ρ H) x u) :
    ∃ A c, u = .slice A l.length c ∧ l.length ≤ c ∧ (∀ y, y ∈ l → wt e y = true) ∧ (l = [] ∨ ∃ ad ds, A = some ad ∧ At W ad ds ∧ ds.length = l.length * e.sz ∧ C W ok noLoc e.sz l ds) := by
  rcases view_cases h (.inr ⟨e, l, rfl⟩) with rfl | ⟨b, sz, rfl⟩ | ⟨b, sz, off, len, cap, rfl⟩
  · rw [rel_list] at hr
    obtain ⟨A, c, eu, hc, hw, hl⟩ := hr
    refine ⟨A, c, eu, hc, hw, ?_⟩
    rcases hl with hl | ⟨ad, ds, ha, _, hat, hlen, hC⟩
    · exact .inl hl
    · exact .inr ⟨ad, ds, ha, hat, hlen, hC⟩
  · rw [rel_vec] at hr
    obtain ⟨loc, hloc, hr⟩ := hr
    obtain ⟨hl, hg, hn⟩ := locs_some hloc
    have hb := hH.blk b
    simp only [view] at h
    split at h
    · simp at h
    · rename_i ty e' l' hHb
      simp only [AV.list.injEq] at h
      obtain ⟨rfl, rfl⟩ := h
      rw [hHb] at hb hn
      simp only [Blk.len] at hn
      obtain ⟨hw, hb⟩ := hb
      rcases hr with ⟨h0, hn0, rfl⟩ | ⟨g, c, T, m, h1, rfl, h3, h4, h5⟩
      · rw [← hg, h0] at hb
        simp only at hb
        subst hb
        exact ⟨none, 0, rfl, Nat.le_refl _, hw, .inl rfl⟩
      · rw [← hg, h1] at hb
        obtain ⟨cur, ds, hh, hp, hC⟩ := hb
        refine ⟨_, c, by rw [← hn], by omega, hw, .inr ⟨_, ds, rfl, ?_, C_length _ _ _ hC, hC⟩⟩
        simpa using At_block (o := 0) hh hp
    · simp at h
  · rw [rel_ref] at hr
    simp only [view] at h
    have hb := hH.blk b
    split at h
    · cases hs : Nat.beq sz 1 <;> simp [hs] at h
    · rename_i ty e' l' hHb
      cases hs : Nat.beq sz e'.sz
      · simp [hs] at h
      · simp only [hs, cond_true, AV.list.injEq] at h
        obtain ⟨rfl, rfl⟩ := h
        have hsz : sz = e'.sz := Nat.eq_of_beq_eq_true hs
        rw [hHb] at hb
        obtain ⟨hw, hb⟩ := hb
        have hw' : ∀ y, y ∈ (l'.drop off).take len → wt e' y = true := fun y hy => hw y (List.mem_of_mem_drop (List.mem_of_mem_take hy))
        rcases hr with ⟨hl0, hc0, rfl⟩ | ⟨loc, g, c, o, T, m, hloc, h1, rfl, h3, h4, h5, h6, h7, h8⟩
        · subst hl0
          exact ⟨none, 0, by simp, by simp, hw', .inl (by simp)⟩
        · obtain ⟨hl, hg, hn⟩ := locs_some hloc
          rw [hHb] at hn
          simp only [Blk.len] at hn
          rw [← hg, h1] at hb
          obtain ⟨cur, ds, hh, hp, hC⟩ := hb
          have hlen : ((l'.drop off).take len).length = len := by rw [List.length_take, List.length_drop]; omega
          refine ⟨_, c, by rw [hlen], by omega, hw', ?_⟩
          rcases Nat.eq_zero_or_pos c with hc | hc
          · left
            apply List.eq_nil_of_length_eq_zero
            omega
          · right
            have ho' := h5 hc
            have hCs := C_sub off len hC
            refine ⟨_, (ds.drop (off * e'.sz)).take (len * e'.sz), rfl, ?_, by rw [C_length _ _ _ hCs], hCs⟩
            rw [ho', hsz]
            intro j w hw
            refine At_block (o := off * e'.sz) hh hp j w ?_
            rw [List.getElem?_take] at hw
            split at hw
            · exact hw
            · simp at hw
    · simp at h

/-- What is appended or copied: a slice of the machine's, its cells. -/
structure Src (W : World) (ok : Nat → Prop) (d : TyD) (x : Els) (u : Value) (news : List Value) (n : Nat) : Prop where
  val : ∃ A c, u = .slice A n c ∧ ((A = none ∧ n = 0) ∨ ∃ ad, A = some ad ∧ At W ad news)
  len : news.length = n * d.sz
  one : ∀ w, w ∈ news → w.oneCell' = true
  els : match x with
    | .I k l => n = l.length ∧ news = l.map (.int k)
    | .A e l => n = l.length ∧ (∀ y, y ∈ l → wt e y = true) ∧ C W ok noLoc e.sz l news
    | .nil => n = 0

def Els.fit (d : TyD) : Els → Prop
  | .I _ _ => d.sz = 1
  | .A e _ => e.sz = d.sz
  | .nil => True

theorem src_ok (hH : HeapOk W ok ρ H) {x : AV} {u : Value} {d : TyD} {els : Els} (h : elsOf H x = some els) (hs : els.fit d) (hr : Rel W ok (locs ρ H) x u) :
    ∃ news n, Src W ok d els u news n := by
  unfold elsOf at h
  split at h
  · rename_i k l hv
    simp only [Option.some.injEq] at h
    subst h
    simp only [Els.fit] at hs
    obtain ⟨A, c, e, hc, hl⟩ := els_I hH hv hr
    refine ⟨l.map (.int k), l.length, ⟨⟨A, c, e, ?_⟩, by simp [hs], ?_, ⟨rfl, rfl⟩⟩⟩
    · rcases hl with rfl | ⟨ad, ha, hat⟩
      · cases A with
        | none => exact .inl ⟨rfl, rfl⟩
        | some ad => exact .inr ⟨ad, rfl, fun j w hw => by simp at hw⟩
      · exact .inr ⟨ad, ha, hat⟩
    · intro w hw
      rw [List.mem_map] at hw
      obtain ⟨n, _, rfl⟩ := hw
      rfl
  · rename_i e l hv
    simp only [Option.some.injEq] at h
    subst h
    simp only [Els.fit] at hs
    obtain ⟨A, c, eu, hc, hw, hl⟩ := els_A hH hv hr
    rcases hl with rfl | ⟨ad, ds, ha, hat, hlen, hC⟩
    · refine ⟨[], 0, ⟨⟨A, c, eu, ?_⟩, by simp, by simp, ⟨rfl, hw, by simp [C]⟩⟩⟩
      cases A with
      | none => exact .inl ⟨rfl, rfl⟩
      | some ad => exact .inr ⟨ad, rfl, fun j w hw => by simp at hw⟩
    · refine ⟨ds, l.length, ⟨⟨A, c, eu, .inr ⟨ad, ha, hat⟩⟩, by rw [hlen, hs], C_oneCells' (List.all_eq_true.2 hw) hC, ⟨rfl, hw, hC⟩⟩⟩
  · rename_i hv
    simp only [Option.some.injEq] at h
    subst h
    have hx : x = .nilS := by
      cases x with
      | nilS => rfl
      | vec b sz => simp only [view] at hv; split at hv <;> simp at hv
      | ref b sz off len cap =>
        simp only [view] at hv
        split at hv
        · cases hs : Nat.beq sz 1 <;> simp [hs] at hv
        · rename_i e' _ _
          cases hs : Nat.beq sz e'.sz <;> simp [hs] at hv
        · simp at hv
      | _ => simp [view] at hv
    subst hx
    rw [rel_nilS] at hr
    exact ⟨[], 0, ⟨⟨none, 0, hr, .inl ⟨rfl, rfl⟩⟩, by simp, by simp, rfl⟩⟩
  · simp at h

/-! ### append -/
theorem append_none (hT : TabOk P tab) {t e : TypeId} {d : TyD} (hdesc : P.underlying t = some (.slice e)) (hd : tab e = some d) {ty : TypeId} {A : Option Addr} {n c c' : Nat} (hnc : n ≤ c) :
    (Builtin.append_ #[t, t] ty #[.slice A n c, .slice none 0 c']).run P W = .ok (.slice A n c) W := by
  obtain ⟨z, hz⟩ := hT _ _ hd
  cases A <;> simp [Builtin.append_, run_underlying hdesc, hz.sizeOf, Builtin.lenOf, hnc, Builtin.firstCells, storeCells]

theorem append_zero (hT : TabOk P tab) {t e : TypeId} {d : TyD} (hdesc : P.underlying t = some (.slice e)) (hd : tab e = some d) {ty : TypeId} {A : Option Addr} {n c c' : Nat} {ad : Addr} (hnc : n ≤ c) :
    (Builtin.append_ #[t, t] ty #[.slice A n c, .slice (some ad) 0 c']).run P W = .ok (.slice A n c) W := by
  obtain ⟨z, hz⟩ := hT _ _ hd
  cases A <;> simp [Builtin.append_, run_underlying hdesc, hz.sizeOf, Builtin.lenOf, hnc, Builtin.firstCells, storeCells, loadCells, loadCellsFrom]

theorem zeroCells_size (z : Array Value) (n : Nat) : (Builtin.zeroCells z n).size = n * z.size := by simp [Builtin.zeroCells]

/-- The three ways of an append of something to what holds something or nothing. -/
theorem append_new (hT : TabOk P tab) {t e : TypeId} {d : TyD} (hdesc : P.underlying t = some (.slice e)) (hd : tab e = some d) {ty : TypeId} {news olds : List Value} {n m c c' : Nat} {A : Option Addr} {ad : Addr}
    (hA : (A = none ∧ n = 0 ∧ c = 0) ∨ ∃ b, A = some b ∧ At W b olds) (ho : olds.length = n * d.sz) (hat : At W ad news) (hn : news.length = m * d.sz) (hm : 0 < m) (hg : c < n + m) (hb0 : 0 < d.bytes) (hlim : (n + m) * d.bytes ≤ 140737488355328) :
    ∃ cap cur, n + m ≤ cap ∧ cur.size = cap * d.sz ∧ Pre cur (olds ++ news) ∧
      (Builtin.append_ #[t, t] ty #[.slice A n c, .slice (some ad) m c']).run P W = .ok (.slice (some ⟨W.heap.size, 0, none⟩) (n + m) cap) (W.drew.alloc (.cells cur e)) := by
  obtain ⟨z, hz⟩ := hT _ _ hd
  obtain ⟨i, hi, hi1, hi2, hi3⟩ := hz.info'
  have hzs : z.cells.size = d.sz := by
    have hr := hz.zero W (fun _ => True) noLoc
    unfold Rel0 lift at hr
    cases ha : d.zero.isAgg
    · simp only [ha, Bool.false_eq_true, if_false] at hr
      have hx := X_fit d.ety _ _ hr
      have hp : plain (fitE d.ety d.zero) = true := by
        have h1 : (fitE d.ety d.zero).isAgg = false := by rw [isAgg_fit]; exact ha
        have hwt := hz.wt
        cases hy : fitE d.ety d.zero <;> simp only [hy, AV.isAgg, Bool.true_eq_false, wt_dead, wt_tup, Bool.false_eq_true] at h1 hwt <;> rfl
      obtain ⟨u, e1, e2, _⟩ := X_one hp hx
      simp only [List.cons.injEq, and_true] at e1
      have := (wt_cells hz.wt hx).1
      rw [← hz.size, ← this, e1, e2]
      rfl
    · simp only [ha, if_true] at hr
      obtain ⟨cs, rfl, hx⟩ := hr
      have := (wt_cells hz.wt (X_fit d.ety _ _ hx)).1
      rw [← hz.size, ← this, Array.length_toList]
      rfl
  have h63 : n + m ≤ 140737488355328 := Nat.le_trans (Nat.le_mul_of_pos_right _ hb0) hlim
  rcases hA with ⟨rfl, rfl, rfl⟩ | ⟨b, rfl, hbat⟩
  · have hol : olds = [] := List.eq_nil_of_length_eq_zero (by simpa using ho)
    subst hol
    have hr := run_append_nil (P := P) W t ty e i z hdesc hi hi3 ad m c' news (by rw [hi1]; exact hn) hat hm (by omega) (by rw [hi2]; simp only [Nat.zero_add] at hlim; omega)
    have hge := grownCap_ge W m 0 e
    refine ⟨grownCap W m 0 e, _, by omega, ?_, ?_, by rw [Nat.zero_add]; exact hr⟩
    · simp only [Array.size_append, List.size_toArray, zeroCells_size, hn, hzs, ← Nat.add_mul]
      congr 1
      omega
    · intro j u hu
      simp only [List.nil_append] at hu
      rw [Array.getElem?_append_left (by simp; exact (List.getElem?_eq_some_iff.1 hu).1)]
      simpa using hu
  · have hr := run_append_grow (P := P) W t ty e i z hdesc hi hi3 b n c olds (by rw [hi1]; exact ho) hbat ad m c' news (by rw [hi1]; exact hn) hat hg (by omega) (by rw [hi2]; exact growslice_fits hg hlim)
    have hge := grownCap_ge W (n + m) c e
    refine ⟨grownCap W (n + m) c e, _, hge, ?_, ?_, hr⟩
    · simp only [Array.size_append, List.size_toArray, zeroCells_size, ho, hn, hzs, ← Nat.add_mul]
      congr 1
      omega
    · intro j u hu
      rw [Array.getElem?_append_left (by simp; have := (List.getElem?_eq_some_iff.1 hu).1; simpa using this)]
      simpa using hu
end
end Go.RX
