/- A whole function. -/
import Derived.Test.YtandibmpaamfbaaRu
set_option linter.unusedVariables false
set_option linter.unusedSimpArgs false
namespace Go.RX

/-- The machine comes to the function's end. -/
def Ends (P : Program) (g : FuncId) (m : Machine) (cs : List Frame) (R : Ending → World → Prop) : Prop :=
  ∃ e w' fr, R e w' ∧ Comes P m (lone fr cs w') e ∧ fr.fn = g ∧ fr.leaving P w' e

theorem Ends.step {P : Program} {g : FuncId} {m m' : Machine} {cs : List Frame} {R : Ending → World → Prop} (h : Steps P m m') (h' : Ends P g m' cs R) : Ends P g m cs R := by
  obtain ⟨e, w', fr, hR, hc, hf, hl⟩ := h'
  exact ⟨e, w', fr, hR, hc.of_steps h, hf, hl⟩

structure Sit (N : Nat) (W : World) (ok : Nat → Prop) (ρ : Nat → Option Nat) (T : Tm) (H : List Blk) (a : Act) : Prop where
  tr : TR W ok (locs ρ H) (tget T) a
  heap : HeapOk W ok ρ H
  size : a.tmps.size = N
  defers : a.defers = []

def Sound {X : Type} (P : Program) (g : FuncId) (E : Env X) (todo : List Item) (T : Tm) (H : List Blk) (x : X) : Prop :=
  ∀ (b : Frame) (a : Act) (cs : List Frame) (W : World) (ok : Nat → Prop) (ρ : Nat → Option Nat) (R : Ending → World → Prop), b.fn = g → b.kind = .normal → Sit E.N W ok ρ T H a →
    (∀ u W' ok' ρ' y H', Trans W W' ok ok' ρ H ρ' H' → HeapOk W' ok' ρ' H' → Rel W' ok' (locs ρ' H') y u → E.fin y H' = some x → R (.returned u) W') →
    Ends P g (lone (b.at a todo) cs W) cs R

section
variable {P : Program} {W W' : World} {ok ok' : Nat → Prop} {ρ ρ' : Nat → Option Nat} {H H' : List Blk} {g : FuncId} {X : Type} {E : Env X} {x : X}

theorem Sound.step {todo todo' : List Item} {T T' : Tm} (hT : ∀ a W ok ρ, Sit E.N W ok ρ T H a → Sit E.N W ok ρ T' H a) (hs : ∀ (b : Frame) (a : Act) (cs : List Frame) (W : World) (ok : Nat → Prop) (ρ : Nat → Option Nat), Sit E.N W ok ρ T H a → Steps P (lone (b.at a todo) cs W) (lone (b.at a todo') cs W)) (h : Sound P g E todo' T' H x) : Sound P g E todo T H x := by
  intro b a cs W ok ρ R hb hk hsit hR
  exact (h b a cs W ok ρ R hb hk (hT _ _ _ _ hsit) hR).step (hs b a cs W ok ρ hsit)

/-! ### results -/
theorem results_run {fn : Func} : ∀ {ts : List Nat}, ts.length ≤ 4 → fn.results = (ts.map ResultVar.tmp).toArray → ∀ (tmps : Array Value) (W : World),
    (results fn tmps).run P W = .ok (match ts.map fun t => tmps.getD t undef with | [v] => v | vs => .tuple vs.toArray) W
  | [], _, h, tmps, W => by simp [results, h]
  | [a], _, h, tmps, W => by simp [results, h]
  | [a, b], _, h, tmps, W => by simp [results, h]
  | [a, b, c], _, h, tmps, W => by simp [results, h]
  | [a, b, c, d], _, h, tmps, W => by simp [results, h]
  | _ :: _ :: _ :: _ :: _ :: _, hl, _, _, _ => by simp at hl

theorem Ends.ret {fn : Func} (hf : P.funcs[g]? = some fn) {ts : List Nat} (hl : ts.length ≤ 4) (hr : fn.results = (ts.map ResultVar.tmp).toArray) {b : Frame} {a : Act} {cs : List Frame} {W : World} (hb : b.fn = g) (hk : b.kind = .normal) (hd : a.defers = []) {R : Ending → World → Prop} {todo : List Item}
    (h : R (.returned (match ts.map fun t => a.tmps.getD t undef with | [v] => v | vs => .tuple vs.toArray)) W) : Ends P g (lone { b.at a todo with mode := .returning } cs W) cs R :=
  ⟨_, W, _, h, Steps.refl _ _, hb, rfl, hd, hk, fn, by simp only [Frame.at]; rw [hb]; exact hf, results_run hl hr a.tmps W⟩

theorem rel_list_tup {f : Nat → AV} {a : Act} (hr : TR W ok (locs ρ H) f a) : ∀ (ts : List Nat), (ts.all fun t => notTup (f t)) = true → All2 (Rel0 W ok (locs ρ H)) (ts.map f) (ts.map fun t => a.tmps.getD t undef)
  | [], _ => by simp [All2]
  | t :: ts, hn => by
    rw [List.all_cons, Bool.and_eq_true] at hn
    refine ⟨_, _, rfl, ?_, rel_list_tup hr ts hn.2⟩
    have := hr t
    unfold Rel at this
    split at this
    · rename_i l h; rw [h] at hn; simp [notTup] at hn
    · rename_i h; rw [h]; simp [Rel0, lift, AV.isAgg, X]
    · exact this

theorem fini_sound {fn : Func} (hf : P.funcs[g]? = some fn) (hl : E.res.length ≤ 4) (hr : fn.results = (E.res.map ResultVar.tmp).toArray) {T : Tm} (h : fini E T H = some x) {b : Frame} {a : Act} {cs : List Frame} {R : Ending → World → Prop} (hb : b.fn = g) (hk : b.kind = .normal) (hs : Sit E.N W ok ρ T H a)
    (hR : ∀ u W' ok' ρ' y H', Trans W W' ok ok' ρ H ρ' H' → HeapOk W' ok' ρ' H' → Rel W' ok' (locs ρ' H') y u → E.fin y H' = some x → R (.returned u) W') {todo : List Item} : Ends P g (lone { b.at a todo with mode := .returning } cs W) cs R := by
  refine Ends.ret hf hl hr hb hk hs.defers ?_
  unfold fini at h
  split at h
  · rename_i t ht
    rw [ht]
    exact hR _ W ok ρ _ H Trans.refl hs.heap (hs.tr t) h
  · rename_i hne
    obtain ⟨hn, h⟩ := cond_none_some h
    have : (match E.res.map fun t => a.tmps.getD t undef with | [v] => v | vs => .tuple vs.toArray) = .tuple (E.res.map fun t => a.tmps.getD t undef).toArray := by
      split
      · rename_i v hv
        match hres : E.res with
        | [] => rw [hres] at hv; simp at hv
        | [t] => exact absurd hres (hne t)
        | _ :: _ :: _ => rw [hres] at hv; simp at hv
      · rfl
    rw [this]
    refine hR _ W ok ρ _ H Trans.refl hs.heap ?_ h
    rw [rel_tup]
    exact ⟨_, rfl, by simpa using rel_list_tup hs.tr E.res hn⟩

/-! ### cut points -/
theorem hget_take : ∀ (H : List Blk) (k b : Nat), hget (H.take k) b = if b < k then hget H b else .dead
  | [], k, b => by simp [hget]
  | x :: H, 0, b => by simp [hget]
  | x :: H, k + 1, 0 => by simp [hget]
  | x :: H, k + 1, b + 1 => by simpa [hget] using hget_take H k b

theorem HeapOk.take (h : HeapOk W ok ρ H) (k : Nat) : HeapOk W ok ρ (H.take k) where
  blk b := by
    rw [hget_take]
    split
    · exact h.blk b
    · trivial
  inj b b' g hl hl' := by
    rw [hget_take] at hl hl'
    split at hl <;> split at hl' <;> try (simp [Blk.live] at hl hl'; done)
    exact h.inj b b' g hl hl'
  apart b g hl := by
    rw [hget_take] at hl
    split at hl
    · exact h.apart b g hl
    · simp [Blk.live] at hl
  lt := h.lt

theorem trans_take (k : Nat) : Trans W W ok ok ρ H ρ (H.take k) where
  os := rfl
  tape := rfl
  output := rfl
  size := Nat.le_refl _
  keep _ _ _ := rfl
  shape _ _ _ h := h
  okf _ h := h
  okb _ h := .inl h
  mu g h := by
    obtain ⟨b, hl, hb⟩ := h
    rw [hget_take] at hl
    split at hl
    · exact .inl ⟨b, hl, hb⟩
    · simp [Blk.live] at hl

theorem mentionsAny_iff : ∀ {bs : List Nat} {y : AV}, mentionsAny bs y = false → ∀ b, b ∈ bs → mentions b y = false
  | [], y, _, b, hb => by simp at hb
  | c :: bs, y, h, b, hb => by
    simp only [mentionsAny, Bool.or_eq_false_iff] at h
    rcases List.mem_cons.1 hb with rfl | hb
    · exact h.1
    · exact mentionsAny_iff h.2 b hb

theorem tget_live : ∀ (L : List (Nat × Form)) (T : Tm) (t : Nat), tget (L.map fun p => (p.1, tget T p.1)) t = tget T t ∨ tget (L.map fun p => (p.1, tget T p.1)) t = .dead
  | [], T, t => .inr rfl
  | p :: L, T, t => by
    simp only [List.map_cons, tget]
    cases hb : Nat.beq p.1 t
    · simpa using tget_live L T t
    · left
      simp [Nat.eq_of_beq_eq_true hb]

theorem tget_mem : ∀ (T : Tm) (t : Nat), tget T t = .dead ∨ ∃ p, p ∈ T ∧ p.2 = tget T t
  | [], t => .inl rfl
  | (n, y) :: T, t => by
    simp only [tget]
    cases hb : Nat.beq n t
    · rcases tget_mem T t with h | ⟨p, hp, he⟩
      · exact .inl h
      · exact .inr ⟨p, by simp [hp], he⟩
    · exact .inr ⟨(n, y), by simp, rfl⟩

theorem Sit.cut {N : Nat} {T : Tm} {a : Act} (h : Sit N W ok ρ T H a) {L : List (Nat × Form)} {k : Nat} (hm : ((L.map fun p => (p.1, tget T p.1)).all fun p => !(mentionsAny ((List.range (H.length - k)).map (· + k)) p.2)) = true) :
    Sit N W ok ρ (L.map fun p => (p.1, tget T p.1)) (H.take k) a := by
  refine ⟨fun t => ?_, h.heap.take k, h.size, h.defers⟩
  rcases tget_mem (L.map fun p => (p.1, tget T p.1)) t with hd | ⟨p, hp, he⟩
  · rw [hd]; exact rel_dead
  · rw [List.all_eq_true] at hm
    have hmp := hm p hp
    rw [Bool.not_eq_true'] at hmp
    rw [he] at hmp
    rcases tget_live L T t with hl | hl
    · rw [hl] at hmp ⊢
      refine Rel_mono2 (Later.refl _ _) (fun _ h => h) (fun b loc hb hloc => ?_) (h.tr t)
      have hb1 : b < H.length := by
        have := (locs_some hloc).1
        exact hget_lt this
      have hbk : b < k := by
        rcases Nat.lt_or_ge b k with h1 | h1
        · exact h1
        · have := mentionsAny_iff hmp b (List.mem_map.2 ⟨b - k, by simp; omega, by omega⟩)
          simp only [this, Bool.false_eq_true] at hb
      unfold locs at *
      rw [hget_take, if_pos hbk]
      exact hloc
    · rw [hl]; exact rel_dead

theorem mkRow_nil {e : TypeId} {d : TyD} {blk : Blk} (h : mkRow e d [] = some blk) : blk.live = true ∧ blk.len = 0 ∧ BlkOk W ok none blk := by
  unfold mkRow at h
  split at h
  · obtain ⟨_, h⟩ := cond_none_some h
    simp only [List.map_nil, Option.some.injEq] at h
    subst h
    exact ⟨rfl, rfl, rfl⟩
  · obtain ⟨_, h⟩ := cond_none_some h
    simp only [Option.some.injEq] at h
    subst h
    exact ⟨rfl, rfl, by simp, rfl⟩

theorem Rel_fitE {R : Nat → Option Loc} {e : ETy} {y : AV} {v : Value} (h : Rel W ok R y v) : Rel W ok R (fitE e y) v := by
  have key : fitE e y = y ∨ (Rel0 W ok R y v ∧ Rel0 W ok R (fitE e y) v) := by
    have k2 : Rel0 W ok R y v → Rel0 W ok R (fitE e y) v := by
      intro h0
      unfold Rel0 at *
      rw [isAgg_fit]
      unfold lift at *
      split
      · rename_i hc
        rw [if_pos hc] at h0
        obtain ⟨cs, h1, h2⟩ := h0
        exact ⟨cs, h1, X_fit e y _ h2⟩
      · rename_i hc
        rw [if_neg hc] at h0
        exact X_fit e y _ h0
    cases y with
    | nilS => exact .inr ⟨h, k2 h⟩
    | agg l => exact .inr ⟨h, k2 h⟩
    | _ => left; cases e <;> rfl
  rcases key with h1 | ⟨_, h1⟩
  · rw [h1]; exact h
  · exact Rel_of_Rel0 h1

theorem Sit.fit {N : Nat} {T : Tm} {a : Act} (h : Sit N W ok ρ T H a) (t : Nat) (e : ETy) : Sit N W ok ρ ((t, fitE e (tget T t)) :: T) H a := by
  refine ⟨fun t' => ?_, h.heap, h.size, h.defers⟩
  rw [tget_put]
  simp only [putf]
  split
  · rename_i e1
    subst e1
    exact Rel_fitE (h.tr t')
  · exact h.tr t'

/-- A cut point's forms: the machine stands; other things are told of it. -/
theorem normF_ok {N : Nat} {tab : Tab} : ∀ {L : List (Nat × Form)} {T T' : Tm} {H H' : List Blk} {ok : Nat → Prop} {ρ : Nat → Option Nat} {a : Act}, normF tab L T H = some (T', H') → Sit N W ok ρ T H a →
    ∃ ok' ρ', Sit N W ok' ρ' T' H' a ∧ Trans W W ok ok' ρ H ρ' H'
  | [], T, T', H, H', ok, ρ, a, h, hs => by
    simp only [normF, Option.some.injEq, Prod.mk.injEq] at h
    obtain ⟨rfl, rfl⟩ := h
    exact ⟨ok, ρ, hs, Trans.refl⟩
  | (t, f) :: L, T, T', H, H', ok, ρ, a, h, hs => by
    simp only [normF] at h
    split at h
    · exact normF_ok h hs
    · split at h
      · exact normF_ok h hs
      · rename_i hne
        generalize refOf (tget T t) = bs at *
        have hs1 : Sit N W (okF ok ρ H bs) ρ ((Tr.fz H bs).appT T) (killH H bs) a :=
          ⟨fun t' => by rw [tget_app]; exact Rel_frz hs.heap bs (hs.tr t'), hs.heap.freeze bs, hs.size, hs.defers⟩
        obtain ⟨ok', ρ', h1, h2⟩ := normF_ok h hs1
        exact ⟨ok', ρ', h1, (trans_freeze bs).trans h2⟩
    · split at h
      · exact normF_ok h (hs.fit t _)
      · rename_i hne
        generalize refOf (tget T t) = bs at *
        have hs1 : Sit N W (okF ok ρ H bs) ρ ((Tr.fz H bs).appT T) (killH H bs) a :=
          ⟨fun t' => by rw [tget_app]; exact Rel_frz hs.heap bs (hs.tr t'), hs.heap.freeze bs, hs.size, hs.defers⟩
        obtain ⟨ok', ρ', h1, h2⟩ := normF_ok h (hs1.fit t _)
        exact ⟨ok', ρ', h1, (trans_freeze bs).trans h2⟩
    · split at h
      · rename_i ht
        split at h
        · rename_i d hd
          split at h
          · rename_i blk hm
            obtain ⟨h1, h2, h3⟩ := mkRow_nil (W := W) (ok := ok) hm
            have hp := hs.heap.pushNil h3
            have hkn : Knows (locs ρ H) (locs (upd ρ H.length none) (H ++ [blk])) := by
              intro b loc hb
              have hlt := hget_lt (locs_some hb).1
              unfold locs at *
              rw [hget_push, if_neg (by omega)]
              simpa [upd, show b ≠ H.length from by omega] using hb
            have hs1 : Sit N W ok (upd ρ H.length none) ((t, .vec H.length d.sz) :: T) (H ++ [blk]) a := by
              refine ⟨fun t' => ?_, hp, hs.size, hs.defers⟩
              rw [tget_put]
              simp only [putf]
              split
              · rename_i e
                subst e
                have := hs.tr t'
                rw [ht, rel_nilS] at this
                rw [rel_vec]
                exact ⟨_, locs_new h1, .inl ⟨rfl, h2, this⟩⟩
              · exact Rel_mono (Later.refl _ _) (fun _ h => h) hkn (hs.tr t')
            obtain ⟨ok', ρ', h4, h5⟩ := normF_ok h hs1
            exact ⟨ok', ρ', h4, trans_nil.trans h5⟩
          · simp at h
        · simp at h
      · exact normF_ok h hs

theorem norm_ok {tab : Tab} {hd : Head} {T : Tm} {H : List Blk} {K : Tm → List Blk → Option X} {todo : List Item} (h : norm tab hd T H K = some x) (hK : ∀ T H, K T H = some x → Sound P g E todo T H x) : Sound P g E todo T H x := by
  unfold norm at h
  split at h
  · simp at h
  · rename_i T1 H1 hn
    obtain ⟨hc, h⟩ := cond_none_some h
    intro b a cs W ok ρ R hb hk hs hR
    obtain ⟨ok', ρ', hs', ht⟩ := normF_ok hn hs
    exact hK _ _ h b a cs W ok' ρ' R hb hk (hs'.cut hc) (fun u W' ok2 ρ2 y H2 t2 => hR u W' ok2 ρ2 y H2 (ht.trans ((trans_take _).trans t2)))

/-! ### the walk -/
theorem Sit.drew {N : Nat} {T : Tm} {a : Act} (h : Sit N W ok ρ T H a) : Sit N W.drew ok ρ T H a :=
  ⟨fun t => Rel_mono ((SameHeap.drew W).later ok) (fun _ h => h) (fun _ _ h => h) (h.tr t), (SameHeap.drew W).hok h.heap, h.size, h.defers⟩

theorem region_sound (hm : P.follows .mixedOrders = true) (hT : TabOk P E.tab) (hct : ∀ g C, E.ct g = some C → CtrOk P g C) {id : Nat} {ops : Array Oper} {draw : Bool} {T : Tm} {H : List Blk} {k : List Item} {K : Tm → List Blk → List Nat → Option X}
    (h : evOps E ops.toList ops.toList T H [] K = some x) (hK : ∀ T H ks, K T H ks = some x → (draw = false ∨ orderOk ops.toList ks = true) ∧ Sound P g E k T H x) : Sound P g E (.code (.region id ops draw) :: k) T H x := by
  obtain ⟨T', H', ks, hp, h⟩ := evOps_ok E hT hct h
  rw [List.nil_append] at h
  obtain ⟨hord, hsound⟩ := hK _ _ _ h
  intro b a cs W ok ρ R hb hk hs hR
  let Q : Exit → Act → World → Prop := fun e a' W' => e = .normal ∧ ∃ ok' ρ', Trans W W' ok ok' ρ H ρ' H' ∧ Sit E.N W' ok' ρ' T' H' a'
  have hwp : (Code.region id ops draw).wp P Q a W := by
    cases draw with
    | false =>
      refine wp_region ?_
      have := seq_ok hp (pre := []) (by simp) Q a W ok ρ hs.tr hs.heap hs.size (fun a' W' ok' ρ' t h1 h2 h3 h4 => ⟨rfl, ok', ρ', t, h2, h1, h3, by rw [h4, hs.defers]⟩)
      rw [List.range_eq_range']
      simpa using this
    | true =>
      refine wp_region_any hm ?_
      have hs1 := hs.drew
      exact draw_ok hp (hord.resolve_left (by simp)) Q a W.drew ok ρ hs1.tr hs1.heap hs1.size (fun a' W' ok' ρ' t h1 h2 h3 h4 => ⟨rfl, ok', ρ', (SameHeap.drew W).trans.trans t, h2, h1, h3, by rw [h4, hs.defers]⟩)
  obtain ⟨e, a', W', ⟨rfl, ok', ρ', ht, hs'⟩, harr⟩ := hwp b k cs
  exact (hsound b a' cs W' ok' ρ' R hb hk hs' (fun u W2 ok2 ρ2 y H2 t2 => hR u W2 ok2 ρ2 y H2 (ht.trans t2))).step harr

theorem Sit.refine {N : Nat} {T : Tm} {a : Act} (h : Sit N W ok ρ T H a) {d : Nat} {c : Bool} (hc : tget T d = .bool c) : Sit N W ok ρ ((d, .bool c) :: T) H a :=
  ⟨by rw [tget_same hc]; exact h.tr, h.heap, h.size, h.defers⟩

theorem evT_ok {fn : Func} (hf : P.funcs[g]? = some fn) (hl : E.res.length ≤ 4) (hr : fn.results = (E.res.map ResultVar.tmp).toArray) (hm : P.follows .mixedOrders = true) (hT : TabOk P E.tab) (hct : ∀ g C, E.ct g = some C → CtrOk P g C) {hint : Nat → Option Head} {rec : Rec X}
    (hrec : ∀ todo T H, rec todo T H = some x → Sound P g E todo T H x) : ∀ (n : Nat) (sk : Bool) (todo : List Item) (T : Tm) (H : List Blk), evT E hint rec n sk todo T H = some x → Sound P g E todo T H x
  | 0, sk, todo, T, H, h => by simp [evT] at h
  | n + 1, sk, todo, T, H, h => by
    have ih := evT_ok (hint := hint) hf hl hr hm hT hct hrec n
    have one : ∀ {todo todo' : List Item} {T : Tm} {H : List Blk}, (∀ (b : Frame) (a : Act) (cs : List Frame) (W : World), step P (lone (b.at a todo) cs W) = .next (lone (b.at a todo') cs W)) → Sound P g E todo' T H x → Sound P g E todo T H x :=
      fun hs h => Sound.step (fun _ _ _ _ h => h) (fun b a cs W _ _ _ => .one (hs b a cs W)) h
    have hcond : ∀ {c : Operand} {A B : Code} {k : List Item} {t : Bool} {T' : Tm}, opnd T c = .bool t → (∀ a W ok ρ, Sit E.N W ok ρ T H a → Sit E.N W ok ρ T' H a) → Sound P g E (.code (if t then A else B) :: k) T' H x → Sound P g E (.code (.cond c A B) :: k) T H x := by
      intro c A B k t T' hc hTT h
      refine Sound.step hTT (fun b a cs W ok ρ hs => .one (step_cond ?_)) h
      have := opf_ok (f := tget T) (a := a) (x := c) (W := W) (ok := ok) (R := locs ρ H) (fun t _ => hs.tr t)
      rw [← opnd_opf, hc, rel_bool] at this
      exact this
    simp only [evT] at h
    split at h
    · intro b a cs W ok ρ R hb hk hs hR
      exact (fini_sound hf hl hr h hb hk hs hR).step (.one step_end)
    · intro b a cs W ok ρ R hb hk hs hR
      exact (fini_sound hf hl hr h hb hk hs hR).step (.one step_ret)
    · exact one (fun _ _ _ _ => step_skip) (ih _ _ _ _ h)
    · split at h
      · exact norm_ok h fun T H h => hrec _ _ _ h
      · exact one (fun _ _ _ _ => step_label) (ih _ _ _ _ h)
    · exact one (fun _ _ _ _ => step_seq) (ih _ _ _ _ h)
    · rename_i c A B k
      split at h
      · rename_i t hc
        split at h
        · rename_i d
          cases t
          · exact hcond hc (fun a W ok ρ hs => hs.refine hc) (ih _ _ _ _ h)
          · exact hcond hc (fun a W ok ρ hs => hs.refine hc) (ih _ _ _ _ h)
        · cases t
          · exact hcond hc (fun _ _ _ _ h => h) (ih _ _ _ _ h)
          · exact hcond hc (fun _ _ _ _ h => h) (ih _ _ _ _ h)
      · simp at h
    · exact one (fun _ _ _ _ => step_block) (ih _ _ _ _ h)
    · rename_i c k
      split at h
      · exact norm_ok h fun T H h => one (fun _ _ _ _ => step_loop) (hrec _ _ _ h)
      · exact one (fun _ _ _ _ => step_loop) (ih _ _ _ _ h)
    · rename_i c k
      split at h
      · exact norm_ok h fun T H h => one (fun _ _ _ _ => step_inLoop) (hrec _ _ _ h)
      · exact one (fun _ _ _ _ => step_inLoop) (ih _ _ _ _ h)
    · split at h
      · rename_i k' he
        exact one (fun _ _ _ _ => step_exit he) (ih _ _ _ _ h)
      · simp at h
    · split at h
      · rename_i k' he
        exact one (fun _ _ _ _ => step_goto he) (ih _ _ _ _ h)
      · simp at h
    · split at h
      · exact norm_ok h fun T H h => hrec _ _ _ h
      · refine region_sound hm hT hct h fun T H ks h => ?_
        obtain ⟨hc, h⟩ := cond_none_some h
        refine ⟨?_, ih _ _ _ _ h⟩
        rw [Bool.or_eq_true, Bool.not_eq_true'] at hc
        exact hc
    · exact one (fun _ _ _ _ => step_inBlock) (ih _ _ _ _ h)
    · simp at h

theorem evK_ok {fn : Func} (hf : P.funcs[g]? = some fn) (hl : E.res.length ≤ 4) (hr : fn.results = (E.res.map ResultVar.tmp).toArray) (hm : P.follows .mixedOrders = true) (hT : TabOk P E.tab) (hct : ∀ g C, E.ct g = some C → CtrOk P g C) {hint : Nat → Option Head} {n : Nat} :
    ∀ (k : Nat) (todo : List Item) (T : Tm) (H : List Blk), evK E hint n k todo T H = some x → Sound P g E todo T H x
  | 0, todo, T, H, h => by simp [evK] at h
  | k + 1, todo, T, H, h => evT_ok hf hl hr hm hT hct (evK_ok hf hl hr hm hT hct k) n true todo T H h
theorem evM_ok {fn : Func} (hf : P.funcs[g]? = some fn) (hl : E.res.length ≤ 4) (hr : fn.results = (E.res.map ResultVar.tmp).toArray) (hm : P.follows .mixedOrders = true) (hT : TabOk P E.tab) (hct : ∀ g C, E.ct g = some C → CtrOk P g C) {hint : Nat → Option Head} {n k : Nat} {todo : List Item} {T : Tm} {H : List Blk} (h : evM E hint n k todo T H = some x) : Sound P g E todo T H x :=
  evT_ok hf hl hr hm hT hct (evK_ok hf hl hr hm hT hct k) n false todo T H h
end
end Go.RX
