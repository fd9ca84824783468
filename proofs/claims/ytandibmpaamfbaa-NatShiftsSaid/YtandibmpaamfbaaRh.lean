/- All operations that make no memory together. -/
import Derived.Test.YtandibmpaamfbaaRg
set_option linter.unusedVariables false
set_option linter.unusedSimpArgs false
namespace Go.RX
section
variable {P : Program} {tab : Tab} {W : World} {ok : Nat → Prop} {ρ : Nat → Option Nat} {H : List Blk} {R : Nat → Option Loc}

theorem Res.next {m : Sem Value} {v : AV} (h : Res P W ok R m v) : ∃ u, (do pure (Next.value (← m)) : Sem Next).run P W = .ok (.value u) W ∧ Rel W ok R v u := by
  obtain ⟨u, hu, hr⟩ := h
  exact ⟨u, by simp [hu], hr⟩

theorem lenAV_ok {x : AV} {u : Value} {n : Nat} (hs : ∀ s, x ≠ .str s) (h : lenAV H x = some n) (hr : Rel W ok (locs ρ H) x u) : ∃ A c, u = .slice A n c := by
  unfold lenAV at h
  split at h <;> try (simp at h; done)
  · rw [rel_ints] at hr; obtain ⟨A, c, e, _⟩ := hr; simp only [Option.some.injEq] at h; subst h; exact ⟨_, _, e⟩
  · rw [rel_list] at hr; obtain ⟨A, c, e, _⟩ := hr; simp only [Option.some.injEq] at h; subst h; exact ⟨_, _, e⟩
  · rw [rel_nilS] at hr; simp only [Option.some.injEq] at h; subst h; exact ⟨_, _, hr⟩
  · rw [rel_vec] at hr
    simp only [Option.some.injEq] at h; subst h
    obtain ⟨loc, hl, hr⟩ := hr
    have hn := (locs_some hl).2.2
    rw [← hn]
    rcases hr with ⟨_, h0, e⟩ | ⟨g, c, T, m, _, e, _⟩
    · rw [h0]; exact ⟨_, _, e⟩
    · exact ⟨_, _, e⟩
  · rw [rel_ref] at hr
    simp only [Option.some.injEq] at h; subst h
    rcases hr with ⟨h0, _, e⟩ | ⟨loc, g, c, o, T, m, _, _, e, _⟩
    · rw [h0]; exact ⟨_, _, e⟩
    · exact ⟨_, _, e⟩
  · exact absurd rfl (hs _)

theorem len_ok (hT : TabOk P tab) {t : TypeId} {x v : AV} {u : Value} {ty : TypeId} (h : (match tab t with
        | some { tk := .slice _, .. } => match x with
          | .str _ => none
          | w => match lenAV H w with
            | some n => some (true, AV.int .i64 (n : Int))
            | none => none
        | some { tk := .str, .. } => match x with
          | .str s => some (true, .int .i64 s.size)
          | _ => none
        | some { tk := .arr n _, .. } => some (true, .int .i64 n)
        | _ => none) = some (true, v)) (hr : Rel W ok (locs ρ H) x u) : Res P W ok (locs ρ H) (Builtin.len_ #[t] ty #[u]) v := by
  split at h
  · rename_i e _ _ _ _ ht
    obtain ⟨z, hz⟩ := hT _ _ ht
    have hd : P.underlying t = some (.slice e) := hz.desc
    split at h
    · simp at h
    · rename_i hns
      split at h
      · rename_i n hn
        simp only [Option.some.injEq, Prod.mk.injEq, true_and] at h
        subst h
        obtain ⟨A, c, rfl⟩ := lenAV_ok (fun s e => hns s e) hn hr
        exact res_int (by simp [Builtin.len_, run_underlying hd, goInt])
      · simp at h
  · rename_i ht
    obtain ⟨z, hz⟩ := hT _ _ ht
    have hd : P.underlying t = some .string := hz.desc
    split at h
    · rename_i s
      rw [rel_str] at hr
      subst hr
      simp only [Option.some.injEq, Prod.mk.injEq, true_and] at h
      subst h
      exact res_int (by simp [Builtin.len_, run_underlying hd, goInt])
    · simp at h
  · rename_i n e _ _ _ _ ht
    obtain ⟨z, hz⟩ := hT _ _ ht
    have hd : P.underlying t = some (.array n e) := hz.desc
    simp only [Option.some.injEq, Prod.mk.injEq, true_and] at h
    subst h
    exact res_int (by simp [Builtin.len_, run_underlying hd, goInt])
  · simp at h

theorem mm_go (mx : Bool) (k : IntKind) : ∀ (l : List AV) (us : List Value) (a : Int) (v : AV), pvMM.go mx k a l = some v → All2 (Rel W ok R) l us →
    ∃ n, v = .int k n ∧ (us.foldlM (if mx then Builtin.max2 else Builtin.min2) (.int k a)).run P W = .ok (.int k n) W
  | [], us, a, v, h, ha => by
    simp only [All2] at ha
    subst ha
    simp only [pvMM.go, Option.some.injEq] at h
    subst h
    exact ⟨a, rfl, by simp⟩
  | x :: l, _, a, v, h, ⟨u, us, rfl, hr, ha⟩ => by
    unfold pvMM.go at h
    split at h
    · simp at *
    · rename_i k' b r he
      simp only [List.cons.injEq] at he
      obtain ⟨rfl, rfl⟩ := he
      rw [rel_int] at hr
      subst hr
      obtain ⟨n, e, hn⟩ := mm_go mx k _ us _ v h ha
      refine ⟨n, e, ?_⟩
      cases mx
      · simp only [List.foldlM_cons, Bool.false_eq_true, if_false, Builtin.min2, Sem.run_bind, Sem.run_pure, Result.andThen_ok]
        simpa [minI] using hn
      · simp only [List.foldlM_cons, if_true, Builtin.max2, Sem.run_bind, Sem.run_pure, Result.andThen_ok]
        simpa [maxI] using hn
    · simp at h

theorem mm_ok (mx : Bool) {l : List AV} {us : List Value} {v : AV} (ts : Array TypeId) (ty : TypeId) (h : pvMM mx l = some v) (ha : All2 (Rel W ok R) l us) :
    Res P W ok R (if mx then Builtin.max_ ts ty us.toArray else Builtin.min_ ts ty us.toArray) v := by
  match l, us, ha with
  | [], _, _ => simp [pvMM] at h
  | x :: l, _, ⟨u, us, rfl, hr, ha⟩ =>
    unfold pvMM at h
    split at h
    · simp at *
    · rename_i k a r he
      simp only [List.cons.injEq] at he
      obtain ⟨rfl, rfl⟩ := he
      rw [rel_int] at hr
      subst hr
      obtain ⟨n, e, hn⟩ := mm_go (P := P) mx k _ us a v h ha
      subst e
      refine res_int ?_
      cases mx
      · simpa [Builtin.min_] using hn
      · simpa [Builtin.max_] using hn
    · simp at h

theorem All2_map {α β γ : Type} {p : β → γ → Prop} {f : α → β} {g : α → γ} : ∀ {l : List α}, (∀ x, x ∈ l → p (f x) (g x)) → All2 p (l.map f) (l.map g)
  | [], _ => rfl
  | x :: xs, h => ⟨_, _, rfl, h x (by simp), All2_map (fun y hy => h y (by simp [hy]))⟩

theorem always_some {x : Option AV} {v : AV} (h : always x = some (true, v)) : x = some v := by
  cases x <;> simp_all [always]

theorem pv_ok (hT : TabOk P tab) {o : Oper} {ev : Operand → AV} {rv : Operand → Value} {v : AV} (h : pv tab ev H o.op = some (true, v)) (hr : ∀ x, x ∈ o.op.operands.toList → Rel W ok (locs ρ H) (ev x) (rv x)) :
    ∃ u, (execOp rv o).run P W = .ok (.value u) W ∧ Rel W ok (locs ρ H) v u := by
  obtain ⟨dst, op, ty, pos, after, guard⟩ := o
  simp only at h hr
  unfold pv at h
  split at h
  · rename_i x
    simp only [Option.some.injEq, Prod.mk.injEq, true_and] at h
    subst h
    exact ⟨rv x, by simp [execOp], hr x (by simp [Op.operands])⟩
  · rename_i x
    simp only [Option.some.injEq, Prod.mk.injEq, true_and] at h
    subst h
    exact ⟨rv x, by simp [execOp], hr x (by simp [Op.operands])⟩
  · rename_i op t x y yt
    exact (pvBin_ok (X' := x) (Y' := y) hT h (hr x (by simp [Op.operands])) (hr y (by simp [Op.operands]))).next
  · rename_i op t x
    exact (pvUn_ok (always_some h) (hr x (by simp [Op.operands]))).next
  · rename_i src dst x
    exact (pvConv_ok hT (always_some h) (hr x (by simp [Op.operands]))).next
  · rename_i x i
    split at h
    · rename_i l hl
      cases hc : Nat.blt i l.length
      · simp [hc] at h
      · simp only [hc, cond_true, Option.some.injEq, Prod.mk.injEq, true_and] at h
        subst h
        have := hr x (by simp [Op.operands])
        rw [hl] at this
        exact (pvExtract_ok (blt_lt hc) this).next
    · simp at h
  · rename_i t x f
    exact (pvField_ok hT (always_some h) (hr x (by simp [Op.operands]))).next
  · rename_i t x i
    exact (pvIndex_ok hT h (hr x (by simp [Op.operands])) (hr i (by simp [Op.operands]))).next
  · rename_i t x i
    exact (pvIndexAddr_ok hT h (hr x (by simp [Op.operands])) (hr i (by simp [Op.operands]))).next
  · rename_i t x f
    exact (pvFieldAddr_ok hT (always_some h) (hr x (by simp [Op.operands]))).next
  · rename_i t x lo hi mx
    exact (pvSlice_ok hT h (hr x (by simp [Op.operands])) (fun p hp => hr p (by simp [Op.operands, hp])) (fun p hp => hr p (by simp [Op.operands, hp])) (fun p hp => hr p (by simp [Op.operands, hp]))).next
  · rename_i t parts
    have := (pvBuild_ok hT (always_some h) (rv := rv) (fun p hp => hr p.2 (by simp only [Op.operands, List.mem_map]; exact ⟨p, hp, rfl⟩))).next
    have he : (parts.toList.map fun p => (p.1, rv p.2)).toArray = parts.map fun (x : Nat × Operand) => match x with | (i, x) => (i, rv x) := by
      apply Array.ext'
      simp
    rw [he] at this
    exact this
  · rename_i x
    split at h
    · rename_i b sz i o hx
      simp only [Option.some.injEq, Prod.mk.injEq, true_and] at h
      subst h
      have := hr x (by simp [Op.operands])
      rw [hx] at this
      have h2 := this
      rw [rel_ptr] at this
      obtain ⟨loc, g, h1, h3, h4, h5⟩ := this
      refine ⟨_, ?_, h2⟩
      simp [execOp, h4]
    · rename_i y hx
      simp only [Option.some.injEq, Prod.mk.injEq, true_and] at h
      subst h
      have := hr x (by simp [Op.operands])
      rw [hx] at this
      have h2 := this
      rw [rel_elem] at this
      obtain ⟨ad, ds, h4, _⟩ := this
      refine ⟨_, ?_, h2⟩
      simp [execOp, h4]
    · simp at h
  · rename_i b args argTypes
    split at h
    · split at h
      · rename_i x t ha ht
        have hargs : args = #[x] := by apply Array.ext'; simpa using ha
        have hts : argTypes = #[t] := by apply Array.ext'; simpa using ht
        subst hargs hts
        have hx := hr x (by simp [Op.operands, Call.operands])
        have key := len_ok (ty := ty) hT h hx
        obtain ⟨u, hu, hru⟩ := key
        exact ⟨u, by simp [execOp, resolve, invoke, builtin, hu], hru⟩
      · simp at h
    · have := mm_ok (P := P) true argTypes ty (always_some h) (us := args.toList.map rv) (All2_map (fun x hx => hr x (by simpa [Op.operands, Call.operands] using hx)))
      obtain ⟨u, hu, hru⟩ := this
      refine ⟨u, ?_, hru⟩
      simp only [if_true] at hu
      have he : (args.toList.map rv).toArray = args.map rv := by apply Array.ext'; simp
      rw [he] at hu
      simp [execOp, resolve, invoke, builtin, hu]
    · have := mm_ok (P := P) false argTypes ty (always_some h) (us := args.toList.map rv) (All2_map (fun x hx => hr x (by simpa [Op.operands, Call.operands] using hx)))
      obtain ⟨u, hu, hru⟩ := this
      refine ⟨u, ?_, hru⟩
      simp only [Bool.false_eq_true, if_false] at hu
      have he : (args.toList.map rv).toArray = args.map rv := by apply Array.ext'; simp
      rw [he] at hu
      simp [execOp, resolve, invoke, builtin, hu]
    · simp at h
  · simp at h
end
end Go.RX
