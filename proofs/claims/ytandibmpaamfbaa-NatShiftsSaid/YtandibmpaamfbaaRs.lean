/- Every operation: what is told is so. -/
import Derived.Test.YtandibmpaamfbaaRr
set_option linter.unusedVariables false
set_option linter.unusedSimpArgs false
namespace Go.RX

structure Good (P : Program) (o : Oper) (ev : Operand → AV) (H : List Blk) (kd : Nat) (τ : Tr) (v : AV) (H' : List Blk) : Prop where
  main : OpS P o ev H τ v H'
  k0 : kd = 0 → ∀ H2, OpS P o ev H2 .id v H2
  k1 : kd = 0 ∨ kd = 1 → H' = H
  k2 : kd = 0 ∨ kd = 1 ∨ kd = 2 → τ = .id

section
variable {P : Program} {tab : Tab} {H H' : List Blk}

theorem Good.write {o : Oper} {ev : Operand → AV} {v : AV} (h : OpS P o ev H .id v H') : Good P o ev H 2 .id v H' :=
  ⟨h, by simp, by simp, fun _ => rfl⟩
theorem Good.turn {o : Oper} {ev : Operand → AV} {v : AV} {τ : Tr} (h : OpS P o ev H τ v H') : Good P o ev H 3 τ v H' :=
  ⟨h, by simp, by simp, by simp⟩
theorem Good.still {o : Oper} {ev : Operand → AV} {v : AV} (h : ∀ H2, OpS P o ev H2 .id v H2) : Good P o ev H 0 .id v H :=
  ⟨h H, fun _ => h, fun _ => rfl, fun _ => rfl⟩
theorem Good.read {o : Oper} {ev : Operand → AV} {v : AV} (h : OpS P o ev H .id v H) : Good P o ev H 1 .id v H :=
  ⟨h, by simp, fun _ => rfl, fun _ => rfl⟩

theorem view_noref {H2 : List Blk} (x : AV) (h : isRef x = false) : view H x = view H2 x := by
  cases x <;> first | rfl | simp [isRef] at h

theorem refOf_isRef {x : AV} (h : refOf x = []) : isRef x = false := by
  cases x <;> simp [isRef, refOf] at h ⊢

theorem pureV_noref {H2 : List Blk} {e : ETy} {x : AV} (h : refOf x = []) : pureV H e x = pureV H2 e x := by
  unfold pureV
  congr 1
  split
  · rename_i l
    congr 1
    apply List.map_congr_left
    intro y hy
    apply view_noref
    simp only [refOf, List.flatten_eq_nil_iff, List.mem_map] at h
    have := h _ ⟨y, hy, rfl⟩
    cases y <;> simp [isRef] at this ⊢
  · exact view_noref x (refOf_isRef h)

theorem ldVal_noref {H2 : List Blk} {t : TypeId} {x : AV} (h : isRef x = false) : ldVal tab H t x = ldVal tab H2 t x := by
  unfold ldVal
  split
  · cases x with
    | elem y => cases y <;> rfl
    | _ => first | rfl | simp [isRef] at h
  · rfl

theorem OpS.load (hT : TabOk P tab) {o : Oper} {ev : Operand → AV} {t : TypeId} {px : Operand} (ho : o.op = .load t px) {v : AV} (h : ldVal tab H t (ev px) = some (true, v)) : OpS P o ev H .id v H := by
  refine OpS.of_quiet ?_
  intro W ok ρ rv hr hH
  have hrx := hr px (by rw [ho]; simp [Op.operands])
  obtain ⟨u, hu, hv⟩ := ldVal_ok hT hH h hrx
  obtain ⟨dst, op, ty', pos, after, guard⟩ := o
  simp only at ho
  subst ho
  exact ⟨u, by simp [execOp, hu], hv⟩

theorem OpS.pick {o : Oper} {ev : Operand → AV} {c a b : Operand} (ho : o.op = .pick c a b) {t : Bool} (hc : ev c = .bool t) : OpS P o ev H .id (cond t (ev a) (ev b)) H := by
  refine OpS.of_quiet ?_
  intro W ok ρ rv hr hH
  have hrc := hr c (by rw [ho]; simp [Op.operands])
  have hra := hr a (by rw [ho]; simp [Op.operands])
  have hrb := hr b (by rw [ho]; simp [Op.operands])
  rw [hc, rel_bool] at hrc
  obtain ⟨dst, op, ty', pos, after, guard⟩ := o
  simp only at ho
  subst ho
  cases t
  · exact ⟨rv b, by simp [execOp, hrc, asBool], hrb⟩
  · exact ⟨rv a, by simp [execOp, hrc, asBool], hra⟩

theorem beqs {a b : Nat} (h : Nat.beq a b = true) : a = b := Nat.eq_of_beq_eq_true h

theorem guardc_some {X : Type} {c : Bool} {k : Option X} {x : X} (h : guardc c k = some x) : c = true ∧ k = some x := by
  cases c
  · simp [guardc] at h
  · exact ⟨rfl, by simpa [guardc] using h⟩
theorem cond_none_some {X : Type} {c : Bool} {k : Option X} {x : X} (h : cond c k none = some x) : c = true ∧ k = some x := by
  cases c
  · simp at h
  · exact ⟨rfl, by simpa using h⟩
theorem cond_some_none {X : Type} {c : Bool} {k : Option X} {x : X} (h : cond c none k = some x) : c = false ∧ k = some x := by
  cases c
  · exact ⟨rfl, by simpa using h⟩
  · simp at h

theorem hasN_mem' {l : List Nat} {n : Nat} (h : hasN l n = false) : n ∉ l := by
  intro hm
  have := (hasN_iff (l := l) (n := n)).2 hm
  rw [h] at this
  simp at this

theorem pv_still {ev : Operand → AV} {H2 : List Blk} {op : Op} (h : stillOp op = true) : pv tab ev H op = pv tab ev H2 op := by
  cases op <;> first | rfl | simp [stillOp] at h

theorem evOp_ok {X : Type} (hT : TabOk P tab) {ct : FuncId → Option Ctr} (hct : ∀ g C, ct g = some C → CtrOk P g C) {ev : Operand → AV} {o : Oper} {K : KK X} {x : X} (h : evOp tab ct ev H o K = some x) :
    ∃ kd τ v H', K kd τ v H' = some x ∧ Good P o ev H kd τ v H' := by
  unfold evOp at h
  split at h
  · rename_i c a b ho
    split at h
    · rename_i t hc
      cases t
      · exact ⟨_, _, _, _, h, .still fun H2 => OpS.pick ho hc⟩
      · exact ⟨_, _, _, _, h, .still fun H2 => OpS.pick ho hc⟩
    · simp at h
  · rename_i t a ho
    split at h
    · rename_i c v hl
      replace h := guardc_some h; obtain ⟨rfl, h⟩ := h
      refine ⟨_, _, _, _, h, ?_⟩
      cases hi : isRef (ev a)
      · exact .still fun H2 => OpS.load hT ho (by rw [← ldVal_noref hi]; exact hl)
      · exact .read (OpS.load hT ho hl)
    · simp at h
  · rename_i t a y ho
    split at h
    · rename_i c H1 hs
      replace h := cond_none_some h; obtain ⟨hr, h⟩ := h
      split at h
      · rename_i hb
        replace h := guardc_some h; obtain ⟨rfl, h⟩ := h
        have := stVal_ok (P := P) hT (ct := ct) (ev := ev) ho hs (by intro b sz i off _; rw [hb]; simp)
        rw [hb] at this
        exact ⟨_, _, _, _, h, .write this⟩
      · rename_i bs hb
        replace h := cond_some_none h; obtain ⟨hn, h⟩ := h
        replace h := guardc_some h; obtain ⟨rfl, h⟩ := h
        have := stVal_ok (P := P) hT (ct := ct) (ev := ev) ho hs (by intro b sz i off e; rw [e] at hn; exact hasN_mem' hn)
        refine ⟨_, _, _, _, h, .turn ?_⟩
        generalize refOf (ev y) = bs at *
        cases bs
        · exact absurd rfl hb
        · exact this
    · simp at h
  · rename_i t ho
    split at h
    · rename_i d hd
      split at h
      · rename_i sz blk hrf hm
        exact ⟨_, _, _, _, h, .write (OpS.alloc hT ho hd hm hrf)⟩
      · simp at h
    · simp at h
  · rename_i t y ho
    split at h
    · rename_i sz blk hb hm
      exact ⟨_, _, _, _, h, .write (OpS.box hT ho hm hb)⟩
    · simp at h
  · rename_i t l c ho
    split at h
    · rename_i e sz by' et z n m ht hl hc
      split at h
      · rename_i d hd
        replace h := cond_none_some h; obtain ⟨hb, h⟩ := h
        have hb' : 0 < d.bytes := by simpa using hb
        have cs : sameOp l c n m = true → m = n := by
          intro hs
          unfold sameOp at hs
          split at hs
          · have := beqs hs
            subst this
            rw [hl] at hc
            injection hc with _ hc
            exact hc.symm
          · exact (of_decide_eq_true hs).symm
          · simp at hs
        have hmk : ∀ {b : Blk}, mkRow e d [fitE d.ety d.zero] = some b → (∃ k, d.tk = .int k ∧ allInt k [fitE d.ety d.zero] = true ∧ b = .I e k [(fitE d.ety d.zero).toInt]) ∨ (wt d.ety (fitE d.ety d.zero) = true ∧ b = .A e d.ety [fitE d.ety d.zero]) := by
          intro b hm
          unfold mkRow at hm
          split at hm
          · rename_i k hk
            obtain ⟨ha, hm⟩ := cond_none_some hm
            exact .inl ⟨k, hk, ha, by simpa using hm.symm⟩
          · obtain ⟨ha, hm⟩ := cond_none_some hm
            exact .inr ⟨by simpa using ha, by simpa using hm.symm⟩
        split at h
        · rename_i ty k z' hm
          replace h := guardc_some h; obtain ⟨hg, h⟩ := h
          replace h := cond_none_some h; obtain ⟨hsame, h⟩ := h
          have := cs hsame
          subst this
          rw [Bool.and_eq_true, decide_eq_true_eq, decide_eq_true_eq] at hg
          rcases hmk hm with ⟨k', hk, ha, e'⟩ | ⟨_, e'⟩
          · injection e' with e1 e2 e3
            subst e2
            simp only [List.cons.injEq, and_true] at e3
            subst e3
            have hz : fitE d.ety d.zero = .int k (fitE d.ety d.zero).toInt := by
              generalize fitE d.ety d.zero = y at ha
              cases y <;> simp [allInt] at ha
              have := ksame_eq ha
              subst this
              rfl
            exact ⟨_, _, _, _, h, .write (OpS.makeSlice hT ho ht rfl hd hl hc hg.1 hg.2 hb' (.inl ⟨_, _, hz, int_sz hT hd hk, rfl, rfl⟩))⟩
          · simp at e'
        · rename_i ty et' z' hm
          replace h := guardc_some h; obtain ⟨hg, h⟩ := h
          replace h := cond_none_some h; obtain ⟨hsame, h⟩ := h
          have := cs hsame
          subst this
          rw [Bool.and_eq_true, decide_eq_true_eq, decide_eq_true_eq] at hg
          rcases hmk hm with ⟨k', hk, ha, e'⟩ | ⟨hw, e'⟩
          · simp at e'
          · injection e' with e1 e2 e3
            subst e2
            simp only [List.cons.injEq, and_true] at e3
            subst e3
            exact ⟨_, _, _, _, h, .write (OpS.makeSlice hT ho ht rfl hd hl hc hg.1 hg.2 hb' (.inr ⟨hw, rfl, rfl⟩))⟩
        · simp at h
      · simp at h
    · simp at h
  · rename_i t len parts ho
    split at h
    · rename_i e sz by' et z ht
      split at h
      · rename_i d hd
        simp only at h
        replace h := cond_none_some h; obtain ⟨hc, h⟩ := h
        simp only [Bool.and_eq_true] at hc
        obtain ⟨⟨ha, hlen⟩, hlim⟩ := hc
        rw [List.length_map] at hlen
        split at h
        · rename_i blk hm
          rw [List.map_map] at hm
          have := OpS.buildSlice (P := P) (H := H) (ev := ev) hT ho ht rfl hd ha (beqs hlen) (Nat.le_of_ble_eq_true hlim) hm rfl
          split at h
          · rename_i hbs
            rw [hbs] at this
            exact ⟨_, _, _, _, h, .write this⟩
          · rename_i bs hbs
            refine ⟨_, _, _, _, h, .turn ?_⟩
            generalize ((parts.toList.map fun p => refOf (ev p.2)).flatten) = bs at *
            cases bs
            · exact absurd rfl hbs
            · exact this
        · simp at h
      · simp at h
    · simp at h
  · rename_i args ts ho
    split at h
    · rename_i s y t t2 hargs hts
      have e1 : args = #[s, y] := by apply Array.toList_inj.1; rw [hargs]
      have e2 : ts = #[t, t2] := by apply Array.toList_inj.1; rw [hts]
      subst e1 e2
      split at h
      · rename_i e sz by' et z ht
        split at h
        · rename_i d els hd hx
          replace h := cond_none_some h; obtain ⟨htt, h⟩ := h
          have := beqs htt
          subst this
          split at h
          · rename_i hs
            split at h
            · rename_i blk hg
              replace h := guardc_some h; obtain ⟨hl, h⟩ := h
              exact ⟨_, _, _, _, h, .write (OpS.append_nil hT ho ht rfl hd hx hs hg hl)⟩
            · simp at h
          · rename_i b sz' hs
            split at h
            · rename_i blk hg
              replace h := cond_none_some h; obtain ⟨hz, h⟩ := h
              replace h := guardc_some h; obtain ⟨hl, h⟩ := h
              exact ⟨_, _, _, _, h, .turn (OpS.append hT ho ht rfl hd hx hs hg (beqs hz) hl)⟩
            · simp at h
          · simp at h
        · simp at h
      · simp at h
    · simp at h
  · rename_i args ts ho
    split at h
    · rename_i s y t t2 hargs hts
      have e1 : args = #[s, y] := by apply Array.toList_inj.1; rw [hargs]
      have e2 : ts = #[t, t2] := by apply Array.toList_inj.1; rw [hts]
      subst e1 e2
      split at h
      · rename_i e sz by' et z ht
        split at h
        · rename_i d k l' hd hx
          split at h
          · rename_i b sz' hs
            split at h
            · rename_i ty k' l hb
              replace h := cond_none_some h; obtain ⟨hc, h⟩ := h
              simp only [Bool.and_eq_true] at hc
              obtain ⟨⟨h1, h2⟩, h3⟩ := hc
              have := ksame_eq h1
              subst this
              have := beqs h2
              subst this
              have hh := OpS.copy (P := P) (H := H) (ev := ev) hT ho ht rfl hd (beqs h3) hx hb (off := 0) (len := l.length) (by omega) (.inr ⟨hs, rfl, rfl⟩)
              exact ⟨_, _, _, _, h, .write hh⟩
            · simp at h
          · rename_i b sz' off len cap hs
            split at h
            · rename_i ty k' l hb
              replace h := cond_none_some h; obtain ⟨hc, h⟩ := h
              simp only [Bool.and_eq_true] at hc
              obtain ⟨⟨h1, h2⟩, h3⟩ := hc
              have := ksame_eq h1
              subst this
              have := beqs h2
              subst this
              replace h := guardc_some h; obtain ⟨hl, h⟩ := h
              have hh := OpS.copy (P := P) (H := H) (ev := ev) hT ho ht rfl hd (beqs h3) hx hb (off := off) (len := len) (by simpa using hl) (.inl ⟨cap, hs⟩)
              exact ⟨_, _, _, _, h, .write hh⟩
            · simp at h
          · simp at h
        · simp at h
      · simp at h
    · simp at h
  · rename_i f args ts ho
    split at h
    · rename_i g hf
      split at h
      · rename_i C hC
        simp only at h
        replace h := cond_none_some h; obtain ⟨hc, h⟩ := h
        rw [Bool.and_eq_true] at hc
        obtain ⟨hlen, hw⟩ := hc
        cases ht : C.f ((C.ps.zip (args.toList.map ev)).map fun p => pureV H p.1 p.2) with
        | none => rw [ht] at h; simp at h
        | some t =>
          rw [ht, Option.bind_some] at h
          have key := fun bs' h' => OpS.call (P := P) (H := H) (ev := ev) ho hf (hct g C hC) (beqs hlen) hw ht (bs := ((args.toList.map ev).map refOf).flatten) (bs' := bs') rfl h' (.inl rfl)
          have hpure : ∀ {H2}, ((args.toList.map ev).map refOf).flatten = [] → ((C.ps.zip (args.toList.map ev)).map fun p => pureV H p.1 p.2) = ((C.ps.zip (args.toList.map ev)).map fun p => pureV H2 p.1 p.2) := by
            intro H2 hnil
            apply List.map_congr_left
            rintro ⟨p, y⟩ hy
            apply pureV_noref
            have hy2 := (List.of_mem_zip hy).2
            rw [List.flatten_eq_nil_iff] at hnil
            exact hnil _ (List.mem_map.2 ⟨y, hy2, rfl⟩)
          generalize hbs : ((args.toList.map ev).map refOf).flatten = bs at h key
          split at h
          · rename_i hsc
            have := key [] (.inr ⟨hsc, rfl⟩)
            cases hn : C.new t with
            | nil =>
              rw [hn] at h this
              simp only [killH, List.append_nil] at h this
              refine ⟨_, _, _, _, h, .still fun H2 => ?_⟩
              have := OpS.call (P := P) (H := H2) (ev := ev) ho hf (hct g C hC) (beqs hlen) (by rw [← hpure hbs]; exact hw) (by rw [← hpure hbs]; exact ht) (bs := ((args.toList.map ev).map refOf).flatten) (bs' := []) rfl (.inl hbs.symm) (m := H.length) (.inr hn)
              rw [hn] at this
              simpa only [killH, trOf, List.append_nil] using this
            | cons a l =>
              rw [hn] at h this
              exact ⟨_, _, _, _, h, .write this⟩
          · rename_i hsc hne
            have := key [] (.inr ⟨hsc, rfl⟩)
            cases hn : C.new t with
            | nil =>
              rw [hn] at h this
              simp only [killH, List.append_nil] at h this
              exact ⟨_, _, _, _, h, .read this⟩
            | cons a l =>
              rw [hn] at h this
              exact ⟨_, _, _, _, h, .write this⟩
          · rename_i hsc
            have := key [] (.inl rfl)
            cases hn : C.new t with
            | nil =>
              rw [hn] at h this
              simp only [killH, List.append_nil] at h this
              refine ⟨_, _, _, _, h, .still fun H2 => ?_⟩
              have := OpS.call (P := P) (H := H2) (ev := ev) ho hf (hct g C hC) (beqs hlen) (by rw [← hpure hbs]; exact hw) (by rw [← hpure hbs]; exact ht) (bs := ((args.toList.map ev).map refOf).flatten) (bs' := []) rfl (.inl hbs.symm) (m := H.length) (.inr hn)
              rw [hn] at this
              simpa only [killH, trOf, List.append_nil] using this
            | cons a l =>
              rw [hn] at h this
              exact ⟨_, _, _, _, h, .write this⟩
          · rename_i bs1 _ bs2 hsc hne
            have := key bs1 (.inl rfl)
            refine ⟨_, _, _, _, h, .turn ?_⟩
            cases bs1
            · exact absurd rfl hne
            · exact this
      · simp at h
    · simp at h
  · split at h
    · rename_i c v hp
      replace h := guardc_some h; obtain ⟨rfl, h⟩ := h
      split at h
      · rename_i hst
        exact ⟨_, _, _, _, h, .still fun H2 => OpS.of_quiet fun W ok ρ rv hr hH => pv_ok hT ((pv_still hst).symm.trans hp) hr⟩
      · exact ⟨_, _, _, _, h, .read (OpS.of_quiet fun W ok ρ rv hr hH => pv_ok hT hp hr)⟩
    · simp at h
end
end Go.RX
