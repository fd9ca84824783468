/- The operations that make no memory: parts, indexes, cuts. -/
import Derived.Test.YtandibmpaamfbaaRd
set_option linter.unusedVariables false
set_option linter.unusedSimpArgs false
namespace Go.RX
section
variable {P : Program} {tab : Tab} {W : World} {ok : Nat → Prop} {ρ : Nat → Option Nat} {H : List Blk} {R : Nat → Option Loc}

theorem fields_at {fields : Array Field} {fs : List (TypeId × Nat)} (h : fields.toList.map (fun f => (f.type, f.offset)) = fs) {i ft off : Nat} (hi : fs[i]? = some (ft, off)) :
    ∃ f, fields[i]? = some f ∧ f.type = ft ∧ f.offset = off := by
  subst h
  rw [List.getElem?_map] at hi
  obtain ⟨f, hf, he⟩ := Option.map_eq_some_iff.1 hi
  simp only [Prod.mk.injEq] at he
  exact ⟨f, by rw [← Array.getElem?_toList]; exact hf, he⟩

theorem pvField_ok (hT : TabOk P tab) {t f : Nat} {x v : AV} {u : Value} (h : pvField tab t x f = some v) (h1 : Rel W ok R x u) : Res P W ok R (Instr.field t u f) v := by
  unfold pvField at h
  split at h
  · rename_i d fs _ _ _ _ l ht
    obtain ⟨z, hz⟩ := hT _ _ ht
    obtain ⟨fields, hd, hf⟩ : ∃ fields, P.underlying t = some (.struct fields) ∧ fields.toList.map (fun f => (f.type, f.offset)) = fs := hz.desc
    rw [rel_agg] at h1
    obtain ⟨cs, rfl, hC⟩ := h1
    split at h
    · rename_i ft off hfo
      obtain ⟨fl, hfl, rfl, rfl⟩ := fields_at hf hfo
      split at h
      · rename_i d' hd'
        obtain ⟨u, hu, hr⟩ := part_ok hT hd' hC h
        exact ⟨u, by simp [Instr.field, run_underlying hd, hfl, asAgg, hu], hr⟩
      · simp at h
    · simp at h
  · simp at h

theorem inRange_iff {i : Int} {n : Nat} : inRange i n = true ↔ 0 ≤ i ∧ i < n := by simp [inRange]

theorem allInt_at {k : IntKind} : ∀ {l : List AV}, allInt k l = true → ∀ i, i < l.length → aget l i = .int k (aget l i).toInt
  | [], _, i, hi => by simp at hi
  | .int k' n :: xs, h, 0, _ => by
    simp only [allInt, Bool.and_eq_true] at h
    simp [aget, AV.toInt, ksame_eq h.1]
  | .int k' n :: xs, h, i + 1, hi => by
    simp only [allInt, Bool.and_eq_true] at h
    simpa [aget] using allInt_at h.2 i (by simpa using hi)

theorem bytes_at (s : ByteArray) (i : Int) (h0 : 0 ≤ i) (h1 : i < s.size) : ∃ b, s[i.toNat]? = some b ∧ (b.toNat : Int) = byteAt s i := by
  have h : i.toNat < s.size := by omega
  refine ⟨s[i.toNat], by simp [h], ?_⟩
  unfold byteAt
  have h' : i.toNat < s.data.toList.length := by rw [Array.length_toList]; exact h
  simp [List.getD_eq_getElem?_getD, List.getElem?_eq_getElem h']
  rfl

theorem pvIndex_ok (hT : TabOk P tab) {t : Nat} {x ix v : AV} {u ui : Value} (h : pvIndex tab t x ix = some (true, v)) (h1 : Rel W ok R x u) (h2 : Rel W ok R ix ui) : Res P W ok R (Instr.index t u ui) v := by
  unfold pvIndex at h
  split at h
  · rename_i ki i
    rw [rel_int] at h2; subst h2
    split at h
    · rename_i s ht
      obtain ⟨z, hz⟩ := hT _ _ ht
      have hd : P.underlying t = some .string := hz.desc
      rw [rel_str] at h1; subst h1
      simp only [Option.some.injEq, Prod.mk.injEq, inRange_iff] at h
      obtain ⟨⟨h0, h1⟩, rfl⟩ := h
      obtain ⟨b, hb, he⟩ := bytes_at s i h0 h1
      rw [← he]
      exact res_int (by simp [Instr.index, asIntOf, run_underlying hd, h0, hb])
    · rename_i d n e _ _ _ _ l ht
      obtain ⟨z, hz⟩ := hT _ _ ht
      have hd : P.underlying t = some (.array n e) := hz.desc
      rw [rel_agg] at h1
      obtain ⟨cs, rfl, hC⟩ := h1
      split at h
      · rename_i k _ _ _ hte
        obtain ⟨ze, hze⟩ := hT _ _ hte
        cases hc : (allInt k l && Nat.beq l.length n)
        · simp [hc] at h
        · simp only [hc, cond_true, Option.some.injEq, Prod.mk.injEq, inRange_iff] at h
          obtain ⟨⟨h0, h1⟩, rfl⟩ := h
          rw [Bool.and_eq_true] at hc
          have hn : l.length = n := Nat.eq_of_beq_eq_true hc.2
          have hlt : i.toNat < l.length := by omega
          obtain ⟨y, hy, hx⟩ := C_one hC _ hlt
          rw [Array.getElem?_toList] at hy
          rw [allInt_at hc.1 _ hlt] at hx
          simp only [X, List.cons.injEq, and_true] at hx
          subst hx
          refine res_int ?_
          simp [Instr.index, asIntOf, run_underlying hd, h0, h1, part, hze.isAgg, hze.sizeOf, TK.isAgg, hy]
      · simp at h
    · simp at h
  · simp at h

theorem locs_some {b : Nat} {loc : Loc} (h : locs ρ H b = some loc) : (hget H b).live = true ∧ loc.g = ρ b ∧ loc.n = (hget H b).len := by
  unfold locs at h
  cases hl : (hget H b).live
  · simp [hl] at h
  · simp only [hl, cond_true, Option.some.injEq] at h
    subst h
    exact ⟨rfl, rfl, rfl⟩
theorem locs_live {b : Nat} (h : (hget H b).live = true) : locs ρ H b = some ⟨ρ b, (hget H b).len⟩ := by simp [locs, h]

theorem add_at (ad : Addr) (j m : Nat) : (ad.add j).add m = ad.add (j + m) := by
  unfold Addr.add
  by_cases hj : j = 0 <;> by_cases hm : m = 0 <;> simp [hj, hm, Nat.add_assoc]

theorem At_sub {ad : Addr} {cs : List Value} (h : At W ad cs) (i m : Nat) : At W (ad.add i) ((cs.drop i).take m) := by
  intro j u hu
  rw [add_at]
  apply h
  rw [List.getElem?_take] at hu
  split at hu
  · rwa [List.getElem?_drop] at hu
  · simp at hu

theorem block_add (ad : Addr) (j : Nat) : (ad.add j).block = ad.block := by unfold Addr.add; split <;> rfl

theorem mem_aget {l : List AV} {i : Nat} (h : i < l.length) : aget l i ∈ l := aget_mem l i h

theorem pvIndexAddr_ok (hT : TabOk P tab) {t : Nat} {x ix v : AV} {u ui : Value} (h : pvIndexAddr tab H t x ix = some (true, v)) (h1 : Rel W ok (locs ρ H) x u) (h2 : Rel W ok (locs ρ H) ix ui) : Res P W ok (locs ρ H) (Instr.indexAt t u ui) v := by
  unfold pvIndexAddr at h
  split at h
  · rename_i ki i
    rw [rel_int] at h2; subst h2
    split at h
    · rename_i e _ _ _ _ ht
      obtain ⟨z, hz⟩ := hT _ _ ht
      have hd : P.underlying t = some (.slice e) := hz.desc
      split at h
      · rename_i d hd'
        obtain ⟨ze, hze⟩ := hT _ _ hd'
        have hrun : ∀ (a : Addr) (n c : Nat), 0 ≤ i → i < n → (Instr.indexAt t (.slice (some a) n c) (.int ki i)).run P W = .ok (.pointer (some (a.add (i.toNat * d.sz)))) W := by
          intro a n c h0 h1
          simp [Instr.indexAt, asIntOf, run_underlying hd, h0, h1, hze.sizeOf]
        split at h
        · rename_i k l
          cases hc : Nat.beq d.sz 1
          · simp [hc] at h
          · have hs : d.sz = 1 := Nat.eq_of_beq_eq_true hc
            simp only [hc, cond_true, Option.some.injEq, Prod.mk.injEq, inRange_iff] at h
            obtain ⟨⟨h0, hn⟩, rfl⟩ := h
            rw [rel_ints] at h1
            obtain ⟨A, c, rfl, hlc, hat⟩ := h1
            rcases hat with rfl | ⟨ad, rfl, hok, hat⟩
            · simp at hn; omega
            · refine ⟨_, hrun ad _ c h0 hn, ?_⟩
              rw [rel_elem]
              have hlt : i.toNat < l.length := by omega
              refine ⟨_, [.int k (rdI l i)], rfl, by rwa [block_add], ?_, by simp [X]⟩
              intro j u hu
              cases j with
              | succ j => simp at hu
              | zero =>
                simp only [List.getElem?_cons_zero, Option.some.injEq] at hu
                subst hu
                rw [add_at, hs, Nat.mul_one, Nat.add_zero]
                apply hat
                rw [List.getElem?_map, List.getElem?_eq_getElem hlt]
                simp [rdI, List.getD_eq_getElem?_getD, List.getElem?_eq_getElem hlt]
        · rename_i et l
          cases hc : Nat.beq d.sz et.sz
          · simp [hc] at h
          · have hs : d.sz = et.sz := Nat.eq_of_beq_eq_true hc
            simp only [hc, cond_true, Option.some.injEq, Prod.mk.injEq, inRange_iff] at h
            obtain ⟨⟨h0, hn⟩, rfl⟩ := h
            rw [rel_list] at h1
            obtain ⟨A, c, rfl, hlc, he, hat⟩ := h1
            rcases hat with rfl | ⟨ad, ds, rfl, hok, hat, hlen, hC⟩
            · simp at hn; omega
            · refine ⟨_, hrun ad _ c h0 hn, ?_⟩
              rw [rel_elem]
              have hlt : i.toNat < l.length := by omega
              refine ⟨_, (ds.drop (i.toNat * et.sz)).take et.sz, rfl, by rwa [block_add], ?_, ?_⟩
              · rw [hs]; exact At_sub hat _ _
              · rw [eta_wt _ _ (he _ (mem_aget hlt))]
                exact C_at _ _ _ hC _ hlt
        · rename_i b sz
          cases hc : Nat.beq d.sz sz
          · simp [hc] at h
          · have hs : d.sz = sz := Nat.eq_of_beq_eq_true hc
            simp only [hc, cond_true, Option.some.injEq, Prod.mk.injEq, inRange_iff] at h
            obtain ⟨⟨h0, hn⟩, rfl⟩ := h
            rw [rel_vec] at h1
            obtain ⟨loc, hloc, h1⟩ := h1
            obtain ⟨hlive, hg, hlen⟩ := locs_some hloc
            rcases h1 with ⟨_, hn0, _⟩ | ⟨g, c, T, m, hg', rfl, hc', hsh, hm⟩
            · omega
            · refine ⟨_, hrun _ _ c h0 (by omega), ?_⟩
              rw [rel_ptr]
              refine ⟨loc, g, hloc, hg', ?_, by omega⟩
              simp only [Addr.add, hs]
              by_cases hz0 : i.toNat * sz = 0 <;> simp [hz0]
        · rename_i b sz off len cap
          cases hc : Nat.beq d.sz sz
          · simp [hc] at h
          · have hs : d.sz = sz := Nat.eq_of_beq_eq_true hc
            simp only [hc, cond_true, Option.some.injEq, Prod.mk.injEq, inRange_iff] at h
            obtain ⟨⟨h0, hn⟩, rfl⟩ := h
            rw [rel_ref] at h1
            rcases h1 with ⟨hl0, _, _⟩ | ⟨loc, g, c, o, T, m, hloc, hg, rfl, hlc, hcap, ho, hsh, hm, hln⟩
            · omega
            · refine ⟨_, hrun _ _ c h0 hn, ?_⟩
              rw [rel_ptr]
              refine ⟨loc, g, hloc, hg, ?_, by omega⟩
              rw [ho (by omega), hs]
              simp only [Addr.add, Nat.add_mul, Nat.add_zero]
              by_cases hz0 : i.toNat * sz = 0 <;> simp [hz0]
        · simp at h
      · simp at h
    · rename_i n e _ _ _ _ ht
      obtain ⟨z, hz⟩ := hT _ _ ht
      have hd : P.underlying t = some (.array n e) := hz.desc
      split at h
      · rename_i d hd'
        obtain ⟨ze, hze⟩ := hT _ _ hd'
        split at h
        · rename_i b sz
          cases hc : (Nat.beq d.sz 1 && Nat.beq sz 1)
          · simp [hc] at h
          · simp only [hc, cond_true, Option.some.injEq, Prod.mk.injEq, Bool.and_eq_true, inRange_iff, decide_eq_true_eq] at h
            obtain ⟨⟨⟨h0, hn⟩, hln⟩, rfl⟩ := h
            simp only [Bool.and_eq_true] at hc
            have hs : d.sz = 1 := Nat.eq_of_beq_eq_true hc.1
            have hs1 : sz = 1 := Nat.eq_of_beq_eq_true hc.2
            rw [rel_ptr] at h1
            obtain ⟨loc, g, hloc, hg, rfl, _⟩ := h1
            refine ⟨.pointer (some ⟨g, i.toNat, none⟩), ?_, ?_⟩
            · simp only [Instr.indexAt, asIntOf, Sem.run_bind, Sem.run_pure, Result.andThen_ok, run_underlying hd, Instr.sureAddr, Nat.zero_mul, Nat.add_zero, h0, hn, true_and, and_self, if_true, hze.sizeOf, hs, Nat.mul_one]
              simp only [Addr.add]
              by_cases hz0 : i.toNat = 0 <;> simp [hz0]
            · rw [rel_ptr]
              exact ⟨loc, g, hloc, hg, by simp, by have := (locs_some hloc).2.2; omega⟩
        · simp at h
      · simp at h
    · simp at h
  · simp at h

theorem pvFieldAddr_ok (hT : TabOk P tab) {t f : Nat} {x v : AV} {u : Value} (h : pvFieldAddr tab t x f = some v) (h1 : Rel W ok R x u) : Res P W ok R (Instr.fieldAt t u f) v := by
  unfold pvFieldAddr at h
  split at h
  · rename_i fs _ _ _ _ ht
    obtain ⟨z, hz⟩ := hT _ _ ht
    obtain ⟨fields, hd, hf⟩ : ∃ fields, P.underlying t = some (.struct fields) ∧ fields.toList.map (fun f => (f.type, f.offset)) = fs := hz.desc
    split at h
    · rename_i ft off hfo
      obtain ⟨fl, hfl, rfl, rfl⟩ := fields_at hf hfo
      split at h
      · rename_i d hd'
        obtain ⟨ze, hze⟩ := hT _ _ hd'
        have hrun : ∀ a : Addr, (Instr.fieldAt t (.pointer (some a)) f).run P W = .ok (.pointer (some (a.add fl.offset))) W := by
          intro a
          simp [Instr.fieldAt, run_underlying hd, hfl, Instr.sureAddr, fieldPlace, hze.sizeOf, Nat.ne_of_gt hze.pos]
        split at h
        · rename_i b sz i o
          cases hc : Nat.ble (o + fl.offset + d.sz) sz
          · simp [hc] at h
          · simp only [hc, cond_true, Option.some.injEq] at h
            subst h
            rw [rel_ptr] at h1
            obtain ⟨loc, g, hloc, hg, rfl, hn⟩ := h1
            refine ⟨_, hrun _, ?_⟩
            rw [rel_ptr]
            refine ⟨loc, g, hloc, hg, ?_, hn⟩
            simp only [Addr.add]
            by_cases hz0 : fl.offset = 0 <;> simp [hz0, Nat.add_assoc]
        · rename_i l
          cases ha : d.tk.isAgg
          · simp only [ha, cond_false] at h
            cases hc : (Nat.blt fl.offset l.length && !(aget l fl.offset).isAgg)
            · simp [hc] at h
            · simp only [hc, cond_true, Option.some.injEq] at h
              subst h
              rw [Bool.and_eq_true, Bool.not_eq_true'] at hc
              rw [rel_elem] at h1
              obtain ⟨ad, ds, rfl, hok, hat, hx⟩ := h1
              simp only [X] at hx
              obtain ⟨y, hy, hxy⟩ := C_one hx _ (blt_lt hc.1)
              refine ⟨_, hrun _, ?_⟩
              rw [rel_elem]
              refine ⟨_, [y], rfl, by rwa [block_add], ?_, hxy⟩
              intro j u hu
              cases j with
              | succ j => simp at hu
              | zero =>
                simp only [List.getElem?_cons_zero, Option.some.injEq] at hu
                subst hu
                rw [add_at, Nat.add_zero]
                exact hat _ _ hy
          · simp [ha] at h
        · simp at h
      · simp at h
    · simp at h
  · simp at h
end
end Go.RX
