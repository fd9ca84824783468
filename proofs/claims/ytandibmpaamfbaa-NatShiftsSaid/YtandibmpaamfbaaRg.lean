/- Structs and arrays that are built; lengths; and all operations that make no memory together. -/
import Derived.Test.YtandibmpaamfbaaRf
set_option linter.unusedVariables false
set_option linter.unusedSimpArgs false
namespace Go.RX
section
variable {P : Program} {tab : Tab} {W : World} {ok : Nat → Prop} {ρ : Nat → Option Nat} {H : List Blk} {R : Nat → Option Loc}

def plain : AV → Bool
  | .agg _ | .dead | .tup _ => false
  | _ => true

theorem X_one {x : AV} {cs : List Value} (hp : plain x = true) (h : X W ok R x cs) : ∃ u, cs = [u] ∧ u.cells = #[u] ∧ u.oneCell' = true := by
  cases x <;> simp only [plain, reduceCtorEq] at hp <;> simp only [X] at h
  case list => obtain ⟨A, c, e, _⟩ := h; exact ⟨_, e, rfl, rfl⟩
  case ints => obtain ⟨A, c, e, _⟩ := h; exact ⟨_, e, rfl, rfl⟩
  case elem => obtain ⟨A, c, e, _⟩ := h; exact ⟨_, e, rfl, rfl⟩
  case iface => obtain ⟨y, e, _⟩ := h; exact ⟨_, e, rfl, rfl⟩
  case vec => obtain ⟨loc, _, ⟨_, _, e⟩ | ⟨g, c, T, m, _, e, _⟩⟩ := h <;> exact ⟨_, e, rfl, rfl⟩
  case ref => obtain ⟨_, _, e⟩ | ⟨loc, g, c, o, T, m, _, _, e, _⟩ := h <;> exact ⟨_, e, rfl, rfl⟩
  case ptr => obtain ⟨loc, g, _, _, e, _⟩ := h; exact ⟨_, e, rfl, rfl⟩
  all_goals exact ⟨_, h, rfl, rfl⟩

theorem Rel_cells {x : AV} {u : Value} {vs : List AV} (h : cellsAV x = some vs) (hr : Rel W ok R x u) : C W ok R 1 vs u.cells.toList := by
  by_cases hp : plain x = true
  · have hv : vs = [x] := by cases x <;> simp_all [cellsAV, plain]
    have ha : x.isAgg = false := by cases x <;> simp_all [AV.isAgg, plain]
    have h0 : Rel0 W ok R x u := by
      unfold Rel at hr
      split at hr <;> simp_all [plain]
    have hx : X W ok R x [u] := by simpa [Rel0, lift, ha] using h0
    obtain ⟨u', e, hc, _⟩ := X_one hp hx
    simp only [List.cons.injEq, and_true] at e
    subst e
    rw [hc, hv]
    simp only [C]
    exact ⟨[u], [], rfl, rfl, hx, rfl⟩
  · cases x <;> simp_all [plain, cellsAV]
    rename_i l
    rw [rel_agg] at hr
    obtain ⟨cs, rfl, hC⟩ := hr
    exact hC

theorem fold_set : ∀ (vs : List Value) (off k : Nat) (cells : Array Value), off + k + vs.length ≤ cells.size →
    (vs.zipIdx k).foldl (fun cs (p : Value × Nat) => cs.setIfInBounds (off + p.2) p.1) cells = (cells.toList.take (off + k) ++ vs ++ cells.toList.drop (off + k + vs.length)).toArray
  | [], off, k, cells, _ => by simp
  | v :: vs, off, k, cells, h => by
    simp only [List.length_cons] at h
    simp only [List.zipIdx_cons, List.foldl_cons]
    rw [fold_set vs off (k + 1) _ (by simp; omega)]
    congr 1
    have := list_seg_step cells.toList (off + k) v vs (by simp; omega)
    simp only [Array.toList_setIfInBounds]
    rw [show off + (k + 1) = off + k + 1 from rfl, this]
    simp [Nat.add_assoc, Nat.add_comm 1]

theorem fill_ok {place : Nat → Option (Nat × Nat)} : ∀ {parts : List (Nat × AV)} {parts' : List (Nat × Value)} {l l' : List AV} {cells : Array Value}, pvFill place l parts = some l' → C W ok R 1 l cells.toList →
    All2 (fun p q => p.1 = q.1 ∧ Rel W ok R p.2 q.2) parts parts' → ∃ cells', Instr.fill place cells parts' = some cells' ∧ C W ok R 1 l' cells'.toList
  | [], parts', l, l', cells, h, hC, ha => by
    simp only [All2] at ha
    subst ha
    simp only [pvFill, Option.some.injEq] at h
    subst h
    exact ⟨cells, rfl, hC⟩
  | (i, v) :: r, _, l, l', cells, h, hC, ⟨(j, u), r', rfl, ⟨hij, hr⟩, ha⟩ => by
    simp only at hij
    subst hij
    simp only [pvFill] at h
    split at h
    · rename_i off size hpl
      split at h
      · rename_i vs hvs
        cases hc : (Nat.beq vs.length size && Nat.ble (off + size) l.length)
        · simp [hc] at h
        · simp only [hc, cond_true] at h
          simp only [Bool.and_eq_true] at hc
          have h1 : vs.length = size := Nat.eq_of_beq_eq_true hc.1
          have h2 : off + size ≤ l.length := Nat.le_of_ble_eq_true hc.2
          have hCv := Rel_cells hvs hr
          have hl := C_length 1 l _ hC
          have hlv := C_length 1 vs _ hCv
          simp only [Array.length_toList, Nat.mul_one] at hl hlv
          have hC' : C W ok R 1 (asetL l off vs) (cells.toList.take off ++ u.cells.toList ++ cells.toList.drop (off + u.cells.size)) := by
            unfold asetL
            have ht := C_take (m := 1) off hC
            have hd := C_drop (m := 1) (off + vs.length) hC
            rw [Nat.mul_one] at ht hd
            rw [hlv]
            exact C_append (C_append ht hCv) hd
          simp only [Instr.fill, hpl]
          rw [if_neg (by simp only [Bool.or_eq_true, decide_eq_true_eq, ne_eq]; omega)]
          have hf := fold_set u.cells.toList off 0 cells (by simp; omega)
          have hf' : u.cells.zipIdx.foldl (fun cs (x : Value × Nat) => match x with | (c, j) => cs.setIfInBounds (off + j) c) cells = (cells.toList.take off ++ u.cells.toList ++ cells.toList.drop (off + u.cells.size)).toArray := by
            rw [← Array.foldl_toList]
            simpa using hf
          rw [hf']
          exact fill_ok h (by simpa using hC') ha
      · simp at h
    · simp at h

theorem Rel0_agg_cells {l : List AV} {z : Value} (h : Rel0 W ok R (.agg l) z) : ∃ cs, z = .agg cs ∧ C W ok R 1 l cs.toList := by
  simpa [Rel0, lift, AV.isAgg, X] using h

theorem mapM_places (hT : TabOk P tab) {fs : List (TypeId × Nat)} : ∀ {fields : List Field}, fields.map (fun f => (f.type, f.offset)) = fs → (∀ p, p ∈ fs → (tab p.1).isSome = true) →
    (fields.mapM (fun f => (do pure (f.offset, ← sizeOf f.type) : Sem (Nat × Nat)))).run P W = .ok (fs.map fun p => (p.2, ((tab p.1).map (·.sz)).getD 0)) W := by
  intro fields h hs
  induction fields generalizing fs with
  | nil => subst h; simp
  | cons f fields ih =>
    subst h
    have hf := hs (f.type, f.offset) (by simp)
    obtain ⟨d, hd⟩ := Option.isSome_iff_exists.1 hf
    obtain ⟨z, hz⟩ := hT _ _ hd
    have := ih rfl (fun p hp => hs p (by simp at hp ⊢; exact .inr hp))
    simp only [List.mapM_cons, Sem.run_bind, hz.sizeOf, Result.andThen_ok, Sem.run_pure, this, List.map_cons, hd]
    rfl

theorem pvBuild_ok (hT : TabOk P tab) {ev : Operand → AV} {rv : Operand → Value} {t : Nat} {v : AV} {parts : List (Nat × Operand)} (h : pvBuild tab ev t parts = some v) (hr : ∀ p, p ∈ parts → Rel W ok R (ev p.2) (rv p.2)) :
    Res P W ok R (Instr.build t (parts.map fun p => (p.1, rv p.2)).toArray) v := by
  have hA : All2 (fun p q => p.1 = q.1 ∧ Rel W ok R p.2 q.2) (parts.map fun p => (p.1, ev p.2)) (parts.map fun p => (p.1, rv p.2)) := by
    clear h
    induction parts with
    | nil => simp [All2]
    | cons p ps ih => exact ⟨_, _, rfl, ⟨rfl, hr p (by simp)⟩, ih (fun q hq => hr q (by simp [hq]))⟩
  unfold pvBuild at h
  split at h
  · rename_i fs sz by_ et z ht
    obtain ⟨zv, hz⟩ := hT _ _ ht
    obtain ⟨fields, hd, hf⟩ : ∃ fields, P.underlying t = some (.struct fields) ∧ fields.toList.map (fun f => (f.type, f.offset)) = fs := hz.desc
    obtain ⟨cs, rfl, hC⟩ := Rel0_agg_cells (hz.zero W ok R)
    cases hs : fs.all fun p => (tab p.1).isSome
    · simp [hs] at h
    · rw [hs, cond_true] at h
      obtain ⟨l', hfl, rfl⟩ := Option.map_eq_some_iff.1 h
      obtain ⟨cells', hc', hC'⟩ := fill_ok hfl hC hA
      refine ⟨.agg cells', ?_, by rw [rel_agg]; exact ⟨_, rfl, hC'⟩⟩
      have hm := mapM_places (W := W) hT hf (fun p hp => List.all_eq_true.1 hs p hp)
      simp only [Instr.build, Sem.run_bind, hz.zeroValue, Result.andThen_ok, run_underlying hd, Array.mapM_eq_mapM_toList, Sem.run_map, hm, Value.cells]
      simp only [List.getElem?_toArray]
      rw [hc']
      rfl
  · rename_i n e sz by_ et z ht
    obtain ⟨zv, hz⟩ := hT _ _ ht
    have hd : P.underlying t = some (.array n e) := hz.desc
    obtain ⟨cs, rfl, hC⟩ := Rel0_agg_cells (hz.zero W ok R)
    split at h
    · rename_i d hd'
      obtain ⟨ze, hze⟩ := hT _ _ hd'
      obtain ⟨l', hfl, rfl⟩ := Option.map_eq_some_iff.1 h
      obtain ⟨cells', hc', hC'⟩ := fill_ok hfl hC hA
      refine ⟨.agg cells', ?_, by rw [rel_agg]; exact ⟨_, rfl, hC'⟩⟩
      simp only [Instr.build, Sem.run_bind, hz.zeroValue, Result.andThen_ok, run_underlying hd, hze.sizeOf, Value.cells]
      rw [hc']
      rfl
    · simp at h
  · simp at h
end
end Go.RX
