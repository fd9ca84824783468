/- Memory that is made: variables, rows, literals; append and copy. -/
import Derived.Test.YtandibmpaamfbaaRm
import Derived.Laws.Append
set_option linter.unusedVariables false
set_option linter.unusedSimpArgs false
namespace Go.RX
section
variable {P : Program} {tab : Tab} {W W' W1 : World} {ok ok' okv : Nat → Prop} {ρ ρ' : Nat → Option Nat} {H H' : List Blk} {R R' : Nat → Option Loc}

/-- A world with the same heap. -/
structure SameHeap (W W1 : World) : Prop where
  heap : W1.heap = W.heap
  os : W1.os = W.os
  tape : W1.tape = W.tape
  output : W1.output = W.output
theorem SameHeap.refl (W : World) : SameHeap W W := ⟨rfl, rfl, rfl, rfl⟩
theorem SameHeap.drew (W : World) : SameHeap W W.drew := ⟨rfl, rfl, rfl, rfl⟩
theorem SameHeap.later (h : SameHeap W W1) (ok : Nat → Prop) : Later W W1 ok := ⟨fun g _ => by rw [h.heap], fun g T m hs => by unfold World.shape? at *; rwa [h.heap]⟩
theorem SameHeap.hok (h : SameHeap W W1) (hH : HeapOk W ok ρ H) : HeapOk W1 ok ρ H :=
  ⟨fun b => (hH.blk b).mono (h.later ok) (fun _ h => h) (fun _ _ _ => by rw [h.heap]), hH.inj, hH.apart, fun g hg => by rw [h.heap]; exact hH.lt g hg⟩
theorem SameHeap.trans (h : SameHeap W W1) : Trans W W1 ok ok ρ H ρ H where
  os := h.os
  tape := h.tape
  output := h.output
  size := by rw [h.heap]; omega
  keep g _ _ := by rw [h.heap]
  shape g T m hs := (h.later (fun _ => True)).shape g T m hs
  okf _ h := h
  okb _ h := .inl h
  mu _ h := .inl h

theorem locs_new {b : Blk} (hb : b.live = true) {g : Option Nat} : locs (upd ρ H.length g) (H ++ [b]) H.length = some ⟨g, b.len⟩ := by
  unfold locs
  rw [hget_new, hb, cond_true]
  simp [upd]

theorem OpS.of_new {o : Oper} {ev : Operand → AV} {v : AV} {bs : List Nat} {blk : Blk}
    (h : ∀ (W : World) (ok : Nat → Prop) (ρ : Nat → Option Nat) (rv : Operand → Value), (∀ x, x ∈ o.op.operands.toList → Rel W ok (locs ρ H) (ev x) (rv x)) → HeapOk W ok ρ H →
      ∃ W1 cur ty u, SameHeap W W1 ∧ (execOp rv o).run P W = .ok (.value u) (W1.alloc (.cells cur ty)) ∧ BlkOk (W1.alloc (.cells cur ty)) (okF ok ρ H bs) (some W.heap.size) blk ∧
        Rel (W1.alloc (.cells cur ty)) (okF ok ρ H bs) (locs (upd ρ H.length (some W.heap.size)) (killH H bs ++ [blk])) v u) :
    OpS P o ev H (trOf H bs) v (killH H bs ++ [blk]) := by
  intro Q a W ok ρ hr hH K hK
  obtain ⟨W1, cur, ty, u, hs, hrun, hb, hv⟩ := h W ok ρ a.eval hr hH
  unfold Oper.wp
  rw [hrun]
  have hF := hs.hok (hH.freeze bs)
  have hsz : W1.heap.size = W.heap.size := by rw [hs.heap]
  have hlen : (killH H bs).length = H.length := killH_length
  rw [← hsz] at hb
  have hP := hF.push hb
  rw [hsz, hlen] at hP
  have hT : Trans W (W1.alloc (.cells cur ty)) ok (okF ok ρ H bs) ρ H (upd ρ H.length (some W.heap.size)) (killH H bs ++ [blk]) := by
    have := ((trans_freeze (W := W) (ok := ok) (ρ := ρ) (H := H) bs).trans hs.trans).trans (trans_alloc (W := W1) (.cells cur ty) (x := blk))
    rwa [hsz, hlen] at this
  refine hK u _ _ _ hT hP hv ?_
  intro x y hxy
  have h1 := trOf_app hH bs hxy
  have hk := locs_push (ρ := ρ) (H := killH H bs) (x := blk) (g := some W.heap.size)
  rw [hlen] at hk
  have hl2 : Later W (W1.alloc (.cells cur ty)) (okF ok ρ H bs) := by
    refine ⟨fun g hg => ?_, fun g T m hsh => shape_alloc W1 _ ((hs.later (fun _ => True)).shape g T m hsh)⟩
    have := (hH.freeze bs).lt g hg
    rw [alloc_keep W1 _ (by rw [hsz]; exact this), hs.heap]
  exact Rel_mono hl2 (fun _ h => h) hk h1

theorem C_pure0 (hH : HeapOk W ok ρ H) {e : ETy} (hns : ∀ fs, e ≠ .st fs) {vs : List AV} {cs : List Value} (ha : (vs.map (pureV H e)).all (wt e) = true) (hb : refOf (.agg vs) = []) (hC : C W ok (locs ρ H) 1 vs cs) : C W ok noLoc 1 (vs.map (pureV H e)) cs := by
  have := C_pure hH hns (bs := []) ha (by rw [hb]; simp) hC
  refine C_mono (Later.refl W _) (fun g hg => ?_) (fun _ _ h => h) _ _ _ this
  rcases hg with hg | ⟨b, hb', _⟩
  · exact hg
  · simp at hb'

theorem sz_not_st {e : ETy} (h : e.sz = 1) : (∃ fs, e = .st fs) ∨ ∀ fs, e ≠ .st fs := by
  cases e with
  | st fs => exact .inl ⟨fs, rfl⟩
  | _ => exact .inr (by simp)

theorem mkVar_ok (hT : TabOk P tab) {t : TypeId} {x : AV} {sz : Nat} {blk : Blk} (h : mkVar tab H t x = some (sz, blk)) (hrf : refOf x = []) {u : Value} (hH : HeapOk W ok ρ H) (hr : Rel W ok (locs ρ H) x u) :
    blk.live = true ∧ 0 < blk.len ∧ (∀ W', Later W W' ok → W'.heap[W.heap.size]? = some (.cells u.cells t (0, 0)) → BlkOk W' ok (some W.heap.size) blk) := by
  have whole : ∀ d : TyD, cond (wt d.ety (pureV H d.ety x)) (some (d.sz, Blk.A t d.ety [pureV H d.ety x])) none = some (sz, blk) → blk.live = true ∧ 0 < blk.len ∧ (∀ W', Later W W' ok → W'.heap[W.heap.size]? = some (.cells u.cells t (0, 0)) → BlkOk W' ok (some W.heap.size) blk) := by
    intro d h
    cases hw : wt d.ety (pureV H d.ety x)
    · simp [hw] at h
    · simp only [hw, cond_true, Option.some.injEq, Prod.mk.injEq] at h
      obtain ⟨_, rfl⟩ := h
      refine ⟨rfl, by simp [Blk.len], fun W' hl hh => ⟨?_, ?_⟩⟩
      · intro y hy
        simp only [List.mem_singleton] at hy
        rw [hy]; exact hw
      · have hx := (Rel0_pure hH (okv := ok) (fun _ h => h) hw (fun b g hb => by rw [hrf] at hb; simp at hb) hr).2
        refine ⟨_, u.cells.toList, hh, fun j w hw => by rwa [Array.getElem?_toList] at hw, ?_⟩
        simp only [C]
        exact ⟨u.cells.toList, [], by simp, (wt_cells hw hx).1, X_mono hl (fun _ h => h) (fun _ _ h => h) _ _ hx, rfl⟩
  unfold mkVar at h
  split at h
  · rename_i d hd
    split at h
    · rename_i k hk
      split at h
      · rename_i k' n
        cases hkk : ksame k k'
        · simp [hkk] at h
        · simp only [hkk, cond_true, Option.some.injEq, Prod.mk.injEq] at h
          obtain ⟨_, rfl⟩ := h
          obtain rfl := ksame_eq hkk
          rw [rel_int] at hr
          subst hr
          refine ⟨rfl, by simp [Blk.len], fun W' hl hh => ⟨_, hh, ?_⟩⟩
          intro j w hw
          simpa [Value.cells] using hw
      · simp at h
    · rename_i n e hk
      split at h
      · rename_i k _ _ _ _ l hte
        cases hc : (allInt k l && Nat.beq l.length n && Nat.blt 0 n)
        · simp [hc] at h
        · simp only [hc, cond_true, Option.some.injEq, Prod.mk.injEq] at h
          obtain ⟨_, rfl⟩ := h
          simp only [Bool.and_eq_true] at hc
          have hn : l.length = n := Nat.eq_of_beq_eq_true hc.1.2
          have h0 : 0 < n := blt_lt hc.2
          rw [rel_agg] at hr
          obtain ⟨cs, rfl, hC⟩ := hr
          have hcs := C_ints hc.1.1 hC
          refine ⟨rfl, by simp [Blk.len]; omega, fun W' hl hh => ⟨_, hh, ?_⟩⟩
          intro j w hw
          rw [← hcs] at hw
          rwa [Array.getElem?_toList] at hw
      · rename_i de l hte hnot
        cases hc : (Nat.blt 0 n && Nat.beq (chunks H de.ety l).length n && Nat.beq (n * de.ety.sz) l.length && (chunks H de.ety l).all (wt de.ety))
        · rw [hc, cond_false] at h
          simp at h
        · rw [hc, cond_true] at h
          simp only [Option.some.injEq, Prod.mk.injEq] at h
          obtain ⟨_, rfl⟩ := h
          simp only [Bool.and_eq_true] at hc
          have h0 : 0 < n := blt_lt hc.1.1.1
          have hn : (chunks H de.ety l).length = n := Nat.eq_of_beq_eq_true hc.1.1.2
          have hlz : n * de.ety.sz = l.length := Nat.eq_of_beq_eq_true hc.1.2
          rw [rel_agg] at hr
          obtain ⟨cs, rfl, hC⟩ := hr
          refine ⟨rfl, by simp only [Blk.len]; omega, fun W' hl hh => ⟨fun y hy => List.all_eq_true.1 hc.2 y hy, ?_⟩⟩
          have hp := C_chunks hH hc.2 (by rw [hn]; exact hlz) (bs := []) (by rw [hrf]; simp) hC
          refine ⟨_, cs.toList, hh, fun j w hw => by simpa [Value.cells] using hw, ?_⟩
          refine C_mono ⟨fun g hg => hl.keep g ?_, hl.shape⟩ (fun g hg => ?_) (fun _ _ h => h) _ _ _ hp
          all_goals
            rcases hg with hg | ⟨b, hb', _⟩
            · exact hg
            · simp at hb'
      · simp at h
    · exact whole d h
  · simp at h
end
end Go.RX
