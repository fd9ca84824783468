/- append and copy, as operations. -/
import Derived.Test.YtandibmpaamfbaaRp
set_option linter.unusedVariables false
set_option linter.unusedSimpArgs false
namespace Go.RX
section
variable {P : Program} {tab : Tab} {W W' W1 : World} {ok ok' okv : Nat → Prop} {ρ ρ' : Nat → Option Nat} {H H' : List Blk} {R R' : Nat → Option Loc}

/-- A block is grown where it lies, or laid anew. -/
structure Grow (W W' : World) (gb g' : Option Nat) : Prop where
  os : W'.os = W.os
  tape : W'.tape = W.tape
  output : W'.output = W.output
  size : W.heap.size ≤ W'.heap.size
  keep : ∀ g, g < W.heap.size → gb ≠ some g → W'.heap[g]? = W.heap[g]?
  shape : ∀ g T m, W.shape? g = some (T, m) → W'.shape? g = some (T, m)
  place : g' = gb ∨ ∃ k, g' = some k ∧ W.heap.size ≤ k

theorem OpS.of_grow {o : Oper} {ev : Operand → AV} {v : AV} {b : Nat} {blk : Blk} (hl : (hget H b).live = true) (hlb : blk.live = true)
    (h : ∀ (W : World) (ok : Nat → Prop) (ρ : Nat → Option Nat) (rv : Operand → Value), (∀ x, x ∈ o.op.operands.toList → Rel W ok (locs ρ H) (ev x) (rv x)) → HeapOk W ok ρ H →
      ∃ u W' g', (execOp rv o).run P W = .ok (.value u) W' ∧ Grow W W' (ρ b) g' ∧ (Later W W' ok → BlkOk W' ok g' blk) ∧ Rel W' ok (locs (upd ρ b g') (hset H b blk)) v u) :
    OpS P o ev H (.kill b) v (hset H b blk) := by
  intro Q a W ok ρ hr hH K hK
  obtain ⟨u, W', g', hrun, hg, hblk, hv⟩ := h W ok ρ a.eval hr hH
  have hT : Trans W W' ok ok ρ H (upd ρ b g') (hset H b blk) := by
    refine ⟨hg.os, hg.tape, hg.output, hg.size, fun g hgs hm => hg.keep g hgs (fun e => hm ⟨b, hl, e⟩), hg.shape, fun _ h => h, fun _ h => .inl h, ?_⟩
    rintro g ⟨c, hc, hcg⟩
    rw [hget_hset_live hl] at hc
    unfold upd at hcg
    split at hcg
    · rename_i e
      rcases hg.place with hp | ⟨k, hp, hk⟩
      · exact .inl ⟨b, hl, by rw [← hp]; exact hcg⟩
      · rw [hp] at hcg
        simp only [Option.some.injEq] at hcg
        exact .inr (by omega)
    · rename_i e
      rw [if_neg e] at hc
      exact .inl ⟨c, hc, hcg⟩
  have hla := hT.later hH
  unfold Oper.wp
  rw [hrun]
  refine hK u W' ok (upd ρ b g') hT ?_ hv ?_
  · constructor
    · intro c
      rw [hget_hset_live hl]
      unfold upd
      split
      · exact hblk hla
      · rename_i hne
        refine (hH.blk c).mono hla (fun _ h => h) (fun hlc g hcg => ?_)
        obtain ⟨cur, ty, hh⟩ := hH.here hlc hcg
        exact hg.keep g (Array.getElem?_eq_some_iff.1 hh).1 (fun e => hne (hH.inj c b g hlc hl hcg e))
    · intro c c' g hc hc' hcg hcg'
      rw [hget_hset_live hl] at hc hc'
      unfold upd at hcg hcg'
      have key : ∀ c, c ≠ b → (hget H c).live = true → ρ c = some g → g' = some g → False := by
        intro c hne hlc hcg hgg
        rcases hg.place with hp | ⟨k, hp, hk⟩
        · exact hne (hH.inj c b g hlc hl hcg (by rw [← hp]; exact hgg))
        · rw [hp] at hgg
          simp only [Option.some.injEq] at hgg
          obtain ⟨cur, ty, hh⟩ := hH.here hlc hcg
          have := (Array.getElem?_eq_some_iff.1 hh).1
          omega
      split at hcg <;> split at hcg'
      · rename_i e1 e2; rw [e1, e2]
      · rename_i e1 e2
        rw [if_neg e2] at hc'
        exact (key c' e2 hc' hcg' hcg).elim
      · rename_i e1 e2
        rw [if_neg e1] at hc
        exact (key c e1 hc hcg hcg').elim
      · rename_i e1 e2
        rw [if_neg e1] at hc
        rw [if_neg e2] at hc'
        exact hH.inj c c' g hc hc' hcg hcg'
    · intro c g hc hcg hok
      rw [hget_hset_live hl] at hc
      unfold upd at hcg
      split at hcg
      · rcases hg.place with hp | ⟨k, hp, hk⟩
        · exact hH.apart b g hl (by rw [← hp]; exact hcg) hok
        · rw [hp] at hcg
          simp only [Option.some.injEq] at hcg
          have := hH.lt g hok
          omega
      · rename_i e
        rw [if_neg e] at hc
        exact hH.apart c g hc hcg hok
    · intro g hok
      exact Nat.lt_of_lt_of_le (hH.lt g hok) hg.size
  · intro x y hxy
    refine Rel_kill hla (fun _ h => h) (fun c loc hne hc => ?_) hxy
    unfold locs at hc ⊢
    rw [hget_hset_live hl, if_neg hne]
    simpa [upd, hne] using hc

theorem Grow.refl (g : Option Nat) : Grow W W g g := ⟨rfl, rfl, rfl, Nat.le_refl _, fun _ _ _ => rfl, fun _ _ _ h => h, .inl rfl⟩
theorem Grow.new (cur : Array Value) (ty : TypeId) (g : Option Nat) : Grow W (W.drew.alloc (.cells cur ty)) g (some W.heap.size) :=
  ⟨rfl, rfl, rfl, by rw [alloc_size]; exact Nat.le_succ _, fun g hg _ => alloc_keep W.drew _ hg, fun g T m h => shape_alloc W.drew _ h, .inr ⟨_, rfl, Nat.le_refl _⟩⟩
theorem Grow.room {g : Nat} {cur cs : Array Value} {t : TypeId} (hh : W.heap[g]? = some (.cells cur t (0, 0))) (hs : cs.size = cur.size) : Grow W (W.setRow g cs) (some g) (some g) := by
  refine ⟨rfl, rfl, rfl, by rw [size_setRow]; exact Nat.le_refl _, fun g' _ hne => heap_setRow W g cs g' (fun e => hne (by rw [e])), ?_, .inl rfl⟩
  intro g' T m h
  by_cases e : g' = g
  · subst e
    unfold World.shape? at h ⊢
    rw [heap_setRow_same hh]
    rw [hh] at h
    simpa [hs] using h
  · unfold World.shape? at h ⊢
    rwa [heap_setRow W g cs g' e]

/-- What a block holds, as cells. -/
def Holds (W : World) (ok : Nat → Prop) (x : Blk) (ds : List Value) : Prop :=
  match x with
  | .dead => False
  | .I _ k l => ds = l.map (.int k)
  | .A _ e l => (∀ y, y ∈ l → wt e y = true) ∧ C W ok noLoc e.sz l ds
def Blk.ty : Blk → TypeId
  | .dead => 0
  | .I ty _ _ => ty
  | .A ty _ _ => ty
def Blk.sz : Blk → Nat
  | .dead => 1
  | .I _ _ _ => 1
  | .A _ e _ => e.sz

theorem Holds.blk {x : Blk} {ds : List Value} (h : Holds W ok x ds) {g : Nat} {cur : Array Value} (hl : Later W W' ok) (hh : W'.heap[g]? = some (.cells cur x.ty (0, 0))) (hp : Pre cur ds) : BlkOk W' ok (some g) x := by
  cases x with
  | dead => trivial
  | I ty k l => simp only [Holds] at h; subst h; exact ⟨cur, hh, hp⟩
  | A ty e l => exact ⟨h.1, cur, ds, hh, hp, C_mono hl (fun _ h => h) (fun _ _ h => h) _ _ _ h.2⟩
theorem Holds.nil {x : Blk} {ds : List Value} (h : Holds W ok x ds) (hn : x.len = 0) : BlkOk W' ok none x := by
  cases x with
  | dead => trivial
  | I ty k l => exact List.eq_nil_of_length_eq_zero hn
  | A ty e l => exact ⟨h.1, List.eq_nil_of_length_eq_zero hn⟩
theorem Holds.len {x : Blk} {ds : List Value} (h : Holds W ok x ds) : ds.length = x.len * x.sz := by
  cases x with
  | dead => cases h
  | I ty k l => simp only [Holds] at h; subst h; simp [Blk.len, Blk.sz]
  | A ty e l => exact C_length _ _ _ h.2
theorem holds_of (hH : HeapOk W ok ρ H) {b : Nat} (hl : (hget H b).live = true) : (ρ b = none ∧ (hget H b).len = 0 ∧ Holds W ok (hget H b) []) ∨ ∃ g cur ds, ρ b = some g ∧ W.heap[g]? = some (.cells cur (hget H b).ty (0, 0)) ∧ Pre cur ds ∧ Holds W ok (hget H b) ds := by
  have hb := hH.blk b
  cases hx : hget H b with
  | dead => simp [hx, Blk.live] at hl
  | I ty k l =>
    rw [hx] at hb
    cases hg : ρ b with
    | none =>
      rw [hg] at hb
      simp only [BlkOk] at hb
      subst hb
      exact .inl ⟨rfl, rfl, rfl⟩
    | some g =>
      rw [hg] at hb
      obtain ⟨cur, h1, h2⟩ := hb
      exact .inr ⟨g, cur, _, rfl, h1, h2, rfl⟩
  | A ty e l =>
    rw [hx] at hb
    cases hg : ρ b with
    | none =>
      rw [hg] at hb
      simp only [BlkOk] at hb
      obtain ⟨h1, rfl⟩ := hb
      exact .inl ⟨rfl, rfl, h1, by simp [C]⟩
    | some g =>
      rw [hg] at hb
      obtain ⟨h0, cur, ds, h1, h2, h3⟩ := hb
      exact .inr ⟨g, cur, ds, rfl, h1, h2, h0, h3⟩

theorem limE_spec {d : TyD} {n : Nat} (h : limE d n = true) : 0 < d.bytes ∧ n * d.bytes ≤ 140737488355328 := by
  unfold limE at h
  rw [Bool.and_eq_true] at h
  have h2 := of_decide_eq_true h.2
  refine ⟨blt_lt h.1, ?_⟩
  have h3 : ((n * d.bytes : Nat) : Int) ≤ ((140737488355328 : Nat) : Int) := by rw [Int.natCast_mul]; exact h2
  exact Int.ofNat_le.1 h3

theorem append_exec {o : Oper} {s x : Operand} {t : TypeId} (ho : o.op = .call { callee := .builtin .append, args := #[s, x], argTypes := #[t, t] }) {rv : Operand → Value} {u : Value} (h : (Builtin.append_ #[t, t] o.type #[rv s, rv x]).run P W = .ok u W') : (execOp rv o).run P W = .ok (.value u) W' := by
  obtain ⟨dst, op, ty', pos, after, guard⟩ := o
  simp only at ho h
  subst ho
  simp [execOp, resolve, invoke, builtin, h]

/-- What growing makes of what a block holds. -/
theorem grow_holds {b : Blk} {e : TypeId} {d : TyD} {els : Els} {blk : Blk} (h : growB b e d els = some blk) {ds news : List Value} {n : Nat} {u : Value} (hb : Holds W ok b ds) (hs : Src W ok d els u news n) :
    Holds W ok blk (ds ++ news) ∧ blk.len = b.len + n ∧ blk.ty = e ∧ b.ty = e ∧ blk.live = true ∧ b.sz = d.sz ∧ blk.sz = d.sz := by
  unfold growB at h
  split at h
  · rename_i ty k l k' l'
    cases hc : (ksame k k' && Nat.beq ty e && Nat.beq d.sz 1)
    · simp [hc] at h
    · simp only [hc, cond_true, Option.some.injEq] at h
      subst h
      simp only [Bool.and_eq_true] at hc
      obtain rfl := ksame_eq hc.1.1
      have hte := Nat.eq_of_beq_eq_true hc.1.2
      have hd1 := Nat.eq_of_beq_eq_true hc.2
      have he := hs.els
      simp only at he
      simp only [Holds] at hb ⊢
      refine ⟨by rw [hb, he.2, List.map_append], by simp [Blk.len, he.1], hte, hte, rfl, hd1.symm, hd1.symm⟩
  · rename_i ty et l et' l'
    cases hc : (ETy.same et et' && Nat.beq ty e && Nat.beq d.sz et.sz)
    · simp [hc] at h
    · simp only [hc, cond_true, Option.some.injEq] at h
      subst h
      simp only [Bool.and_eq_true] at hc
      obtain rfl := ETy.same_eq _ _ hc.1.1
      have hte := Nat.eq_of_beq_eq_true hc.1.2
      have hd1 := Nat.eq_of_beq_eq_true hc.2
      have he := hs.els
      simp only at he
      simp only [Holds] at hb ⊢
      refine ⟨⟨fun y hy => ?_, C_append hb.2 he.2.2⟩, by simp [Blk.len, he.1], hte, hte, rfl, hd1.symm, hd1.symm⟩
      rcases List.mem_append.1 hy with hy | hy
      · exact hb.1 y hy
      · exact he.2.1 y hy
  · simp at h

theorem growB_info {b : Blk} {e : TypeId} {d : TyD} {els : Els} {blk : Blk} (h : growB b e d els = some blk) : b.live = true ∧ blk.live = true ∧ els.fit d := by
  unfold growB at h
  split at h
  · rename_i ty k l k' l'
    cases hc : (ksame k k' && Nat.beq ty e && Nat.beq d.sz 1)
    · simp [hc] at h
    · simp only [hc, cond_true, Option.some.injEq] at h
      rw [Bool.and_eq_true] at hc
      exact ⟨rfl, by rw [← h]; rfl, Nat.eq_of_beq_eq_true hc.2⟩
  · rename_i ty et l et' l'
    cases hc : (ETy.same et et' && Nat.beq ty e && Nat.beq d.sz et.sz)
    · simp [hc] at h
    · simp only [hc, cond_true, Option.some.injEq] at h
      simp only [Bool.and_eq_true] at hc
      exact ⟨rfl, by rw [← h]; rfl, by rw [Els.fit, ← ETy.same_eq _ _ hc.1.1]; exact (Nat.eq_of_beq_eq_true hc.2).symm⟩
  · simp at h

theorem OpS.append (hT : TabOk P tab) {o : Oper} {ev : Operand → AV} {s x : Operand} {t e : TypeId} (ho : o.op = .call { callee := .builtin .append, args := #[s, x], argTypes := #[t, t] }) {d0 d : TyD} (ht : tab t = some d0) (hk : d0.tk = .slice e) (hd : tab e = some d)
    {els : Els} (hx : elsOf H (ev x) = some els) {b sz : Nat} (hs : ev s = .vec b sz) {blk : Blk} (hg : growB (hget H b) e d els = some blk) (hsz : sz = d.sz) (hlim : limE d blk.len = true) :
    OpS P o ev H (.kill b) (.vec b sz) (hset H b blk) := by
  obtain ⟨z0, hz0⟩ := hT _ _ ht
  have hdesc : P.underlying t = some (.slice e) := by have := hz0.desc; rwa [hk] at this
  obtain ⟨hlive, hlb, hszE⟩ := growB_info hg
  obtain ⟨hb0, hlm⟩ := limE_spec hlim
  refine OpS.of_grow hlive hlb ?_
  intro W ok ρ rv hr hH
  have hrs := hr s (by rw [ho]; simp [Op.operands, Call.operands])
  have hrx := hr x (by rw [ho]; simp [Op.operands, Call.operands])
  obtain ⟨news, m, hsrc⟩ := src_ok hH hx hszE hrx
  rw [hs, rel_vec] at hrs
  obtain ⟨loc, hloc, hrs⟩ := hrs
  obtain ⟨_, hlg, hln⟩ := locs_some hloc
  obtain ⟨A, c', eu, hA⟩ := hsrc.val
  have newrel : ∀ {W2 : World} {g' : Option Nat} {g n c T k : Nat}, g' = some g → n = blk.len → n ≤ c → W2.shape? g = some (T, k) → c * sz ≤ k → Rel W2 ok (locs (upd ρ b g') (hset H b blk)) (.vec b sz) (.slice (some ⟨g, 0, none⟩) n c) := by
    intro W2 g' g n c T k hg' hn hnc hsh hck
    rw [rel_vec]
    refine ⟨⟨g', blk.len⟩, ?_, .inr ⟨g, c, T, k, hg', by rw [hn], by rw [← hn]; exact hnc, hsh, hck⟩⟩
    unfold locs
    rw [hget_hset_live hlive, if_pos rfl, hlb, cond_true]
    simp [upd]
  rcases holds_of hH hlive with ⟨hρ, hlen0, hh0⟩ | ⟨g, cur, ds, hρ, hh, hp, hholds⟩
  · -- nothing was there
    obtain ⟨q1, q2, q3, q4, q5, q6, q7⟩ := grow_holds hg hh0 hsrc
    rw [hlen0, Nat.zero_add] at q2
    have hvs : rv s = .slice none 0 0 := by
      rcases hrs with ⟨_, _, h⟩ | ⟨g, c, T, m', hg', _⟩
      · exact h
      · rw [hlg, hρ] at hg'; simp at hg'
    rcases Nat.eq_zero_or_pos m with hm | hm
    · refine ⟨.slice none 0 0, W, none, append_exec ho ?_, by rw [hρ]; exact Grow.refl none, fun _ => q1.nil (by omega), ?_⟩
      · rw [hvs, eu]
        subst hm
        rcases hA with ⟨rfl, _⟩ | ⟨ad, rfl, _⟩
        · exact append_none hT hdesc hd (Nat.le_refl _)
        · exact append_zero hT hdesc hd (Nat.le_refl _)
      · rw [rel_vec]
        refine ⟨⟨none, blk.len⟩, ?_, .inl ⟨rfl, by simp; omega, rfl⟩⟩
        unfold locs
        rw [hget_hset_live hlive, if_pos rfl, hlb, cond_true]
        simp [upd]
    · rcases hA with ⟨_, hm0⟩ | ⟨ad, rfl, hat⟩
      · omega
      · obtain ⟨cap, cur', h1, h2, h3, h4⟩ := append_new (W := W) hT hdesc hd (ty := o.type) (olds := []) (n := 0) (c := 0) (A := none) (c' := c') (.inl ⟨rfl, rfl, rfl⟩) (by simp) hat hsrc.len hm (by omega) hb0 (by rw [Nat.zero_add, ← q2]; exact hlm)
        refine ⟨.slice (some ⟨W.heap.size, 0, none⟩) (0 + m) cap, _, some W.heap.size, append_exec ho (by rw [hvs, eu]; exact h4), Grow.new _ _ _, fun hl => ?_, ?_⟩
        · exact q1.blk hl (by rw [q3]; exact alloc_new W.drew _) h3
        · exact newrel rfl (by omega) h1 (shape_new W.drew cur' e) (by rw [h2, hsz]; omega)
  · obtain ⟨q1, q2, q3, q4, q5, q6, q7⟩ := grow_holds hg hholds hsrc
    rcases hrs with ⟨hg0, _, _⟩ | ⟨g', c, T, mm, hg', hvs, hnc, hsh, hcm⟩
    · rw [hlg, hρ] at hg0; simp at hg0
    rw [hlg, hρ] at hg'
    simp only [Option.some.injEq] at hg'
    subst hg'
    rw [hln] at hvs hnc
    have hdl := hholds.len
    rw [q6] at hdl
    have hshc : mm = cur.size := by
      unfold World.shape? at hsh
      rw [hh] at hsh
      simp only [Option.some.injEq, Prod.mk.injEq] at hsh
      exact hsh.2.symm
    have hatb : At W ⟨g, 0, none⟩ ds := by simpa using At_block (o := 0) hh hp
    rcases Nat.eq_zero_or_pos m with hm | hm
    · refine ⟨.slice (some ⟨g, 0, none⟩) (hget H b).len c, W, some g, append_exec ho ?_, by rw [hρ]; exact Grow.refl _, fun hl => ?_, ?_⟩
      · rw [hvs, eu]
        subst hm
        rcases hA with ⟨rfl, _⟩ | ⟨ad, rfl, _⟩
        · exact append_none hT hdesc hd hnc
        · exact append_zero hT hdesc hd hnc
      · have : news = [] := List.eq_nil_of_length_eq_zero (by rw [hsrc.len, hm]; simp)
        rw [this, List.append_nil] at q1
        exact q1.blk hl (by rw [q3, ← q4]; exact hh) hp
      · exact newrel rfl (by omega) hnc hsh hcm
    · rcases hA with ⟨_, hm0⟩ | ⟨ad, rfl, hat⟩
      · omega
      · by_cases hroom : (hget H b).len + m ≤ c
        · have hfit : (hget H b).len * d.sz + news.length ≤ cur.size := by
            rw [hsrc.len, ← Nat.add_mul, ← hshc, ← hsz]
            exact Nat.le_trans (Nat.mul_le_mul_right _ hroom) hcm
          obtain ⟨z, hz⟩ := hT _ _ hd
          obtain ⟨i, hi, hi1, hi2, hi3⟩ := hz.info'
          rw [q4] at hh
          have hrun := run_append_room (P := P) W t o.type e i hdesc hi g (hget H b).len c cur hh ad m c' news (by rw [hi1]; exact hsrc.len) hat hsrc.one hroom (by rw [hi1]; exact hfit)
          rw [hi1] at hrun
          have hsize := put_cells (cur := cur) (vs := news) (o := (hget H b).len * d.sz) hfit
          refine ⟨_, _, some g, append_exec ho (by rw [hvs, eu]; exact hrun), by rw [hρ]; exact Grow.room hh hsize.1, fun hl => ?_, ?_⟩
          · refine q1.blk hl (by rw [q3]; exact heap_setRow_same hh) ?_
            intro j w hw
            rw [hsize.2]
            rw [List.getElem?_append, hdl] at hw
            split at hw
            · rename_i hj
              rw [if_neg (by omega)]
              exact hp j w hw
            · rename_i hj
              have := (List.getElem?_eq_some_iff.1 hw).1
              rw [if_pos (by omega)]
              exact hw
          · have hsh2 : (W.setRow g (cur.toList.take ((hget H b).len * d.sz) ++ news ++ cur.toList.drop ((hget H b).len * d.sz + news.length)).toArray).shape? g = some (e, cur.size) := by
              unfold World.shape?
              rw [heap_setRow_same hh]
              simp only [hsize.1]
            exact newrel rfl (by omega) hroom hsh2 (by omega)
        · obtain ⟨cap, cur', h1, h2, h3, h4⟩ := append_new (W := W) hT hdesc hd (ty := o.type) (olds := ds) (n := (hget H b).len) (c := c) (c' := c') (.inr ⟨_, rfl, hatb⟩) hdl hat hsrc.len hm (by omega) hb0 (by rw [← q2]; exact hlm)
          refine ⟨_, _, some W.heap.size, append_exec ho (by rw [hvs, eu]; exact h4), Grow.new _ _ _, fun hl => ?_, ?_⟩
          · exact q1.blk hl (by rw [q3]; exact alloc_new W.drew _) h3
          · exact newrel rfl (by omega) h1 (shape_new W.drew cur' e) (by rw [h2, hsz]; omega)

theorem rowBlk_info {e : TypeId} {d : TyD} {els : Els} {blk : Blk} (h : rowBlk e d els = some blk) : blk.live = true ∧ els.fit d ∧ blk.ty = e ∧ blk.sz = d.sz ∧ ∀ {W : World} {ok : Nat → Prop} {u : Value} {news : List Value} {n : Nat}, Src W ok d els u news n → Holds W ok blk news ∧ blk.len = n := by
  unfold rowBlk at h
  split at h
  · rename_i k _ k' l _
    cases hc : (ksame k k' && Nat.beq d.sz 1)
    · simp [hc] at h
    · simp only [hc, cond_true, Option.some.injEq] at h
      rw [Bool.and_eq_true] at hc
      have hd := Nat.eq_of_beq_eq_true hc.2
      obtain rfl := ksame_eq hc.1
      subst h
      refine ⟨rfl, hd, rfl, hd.symm, fun hs => ?_⟩
      have he := hs.els
      simp only at he
      exact ⟨he.2, he.1.symm⟩
  · rename_i et _ et' l _
    cases hc : (ETy.same et et' && Nat.beq d.sz et.sz)
    · simp [hc] at h
    · simp only [hc, cond_true, Option.some.injEq] at h
      rw [Bool.and_eq_true] at hc
      have hd := Nat.eq_of_beq_eq_true hc.2
      obtain rfl := ETy.same_eq _ _ hc.1
      subst h
      refine ⟨rfl, hd.symm, rfl, hd.symm, fun hs => ?_⟩
      have he := hs.els
      simp only at he
      exact ⟨⟨he.2.1, he.2.2⟩, he.1.symm⟩
  · cases hc : Nat.beq d.sz 1
    · simp [hc] at h
    · simp only [hc, cond_true, Option.some.injEq] at h
      have hd := Nat.eq_of_beq_eq_true hc
      subst h
      refine ⟨rfl, trivial, rfl, hd.symm, fun hs => ?_⟩
      have he := hs.els
      simp only at he
      have hl := hs.len
      rw [he, Nat.zero_mul] at hl
      exact ⟨List.eq_nil_of_length_eq_zero hl, he.symm⟩
  · rename_i et _ _
    cases hc : Nat.beq d.sz et.sz
    · simp [hc] at h
    · simp only [hc, cond_true, Option.some.injEq] at h
      have hd := Nat.eq_of_beq_eq_true hc
      subst h
      refine ⟨rfl, trivial, rfl, hd.symm, fun hs => ?_⟩
      have he := hs.els
      simp only at he
      have hl := hs.len
      rw [he, Nat.zero_mul] at hl
      have hn := List.eq_nil_of_length_eq_zero hl
      subst hn
      exact ⟨⟨by simp, by simp [C]⟩, he.symm⟩
  · simp at h

theorem OpS.append_nil (hT : TabOk P tab) {o : Oper} {ev : Operand → AV} {s x : Operand} {t e : TypeId} (ho : o.op = .call { callee := .builtin .append, args := #[s, x], argTypes := #[t, t] }) {d0 d : TyD} (ht : tab t = some d0) (hk : d0.tk = .slice e) (hd : tab e = some d)
    {els : Els} (hx : elsOf H (ev x) = some els) (hs : ev s = .nilS) {blk : Blk} (hg : rowBlk e d els = some blk) (hlim : limE d blk.len = true) :
    OpS P o ev H .id (.vec H.length d.sz) (H ++ [blk]) := by
  obtain ⟨z0, hz0⟩ := hT _ _ ht
  have hdesc : P.underlying t = some (.slice e) := by have := hz0.desc; rwa [hk] at this
  obtain ⟨hlb, hfit, hty, hsz, hsrcs⟩ := rowBlk_info hg
  obtain ⟨hb0, hlm⟩ := limE_spec hlim
  intro Q a W ok ρ hr hH K hK
  have hrs := hr s (by rw [ho]; simp [Op.operands, Call.operands])
  have hrx := hr x (by rw [ho]; simp [Op.operands, Call.operands])
  rw [hs, rel_nilS] at hrs
  obtain ⟨news, m, hsrc⟩ := src_ok hH hx hfit hrx
  obtain ⟨hh, hlen⟩ := hsrcs hsrc
  obtain ⟨A, c', eu, hA⟩ := hsrc.val
  rcases Nat.eq_zero_or_pos m with hm | hm
  · have hrun : (Builtin.append_ #[t, t] o.type #[a.eval s, a.eval x]).run P W = .ok (.slice none 0 0) W := by
      rw [hrs, eu]
      subst hm
      rcases hA with ⟨rfl, _⟩ | ⟨ad, rfl, _⟩
      · exact append_none hT hdesc hd (Nat.le_refl _)
      · exact append_zero hT hdesc hd (Nat.le_refl _)
    unfold Oper.wp
    rw [append_exec ho hrun]
    refine hK _ W ok (upd ρ H.length none) trans_nil (hH.pushNil (hh.nil (by omega))) ?_ (fun x y hxy => Rel_mono (Later.refl W ok) (fun _ h => h) locs_push hxy)
    rw [rel_vec]
    exact ⟨_, locs_new hlb, .inl ⟨rfl, by simp; omega, rfl⟩⟩
  · rcases hA with ⟨_, hm0⟩ | ⟨ad, rfl, hat⟩
    · omega
    · obtain ⟨cap, cur', h1, h2, h3, h4⟩ := append_new (W := W) hT hdesc hd (ty := o.type) (olds := []) (n := 0) (c := 0) (A := none) (c' := c') (.inl ⟨rfl, rfl, rfl⟩) (by simp) hat hsrc.len hm (by omega) hb0 (by rw [Nat.zero_add, ← hlen]; exact hlm)
      rw [Nat.zero_add] at h1 h4
      unfold Oper.wp
      rw [append_exec ho (by rw [hrs, eu]; exact h4)]
      have hl : Later W (W.drew.alloc (.cells cur' e)) ok := later_alloc (SameHeap.drew W) hH _
      have hP := ((SameHeap.drew W).hok hH).push (cur := cur') (ty := e) (x := blk) (hh.blk hl (by rw [hty]; exact alloc_new W.drew _) h3)
      have hT' : Trans W (W.drew.alloc (.cells cur' e)) ok ok ρ H (upd ρ H.length (some W.heap.size)) (H ++ [blk]) := ((SameHeap.drew W).trans (ok := ok) (ρ := ρ) (H := H)).trans (trans_alloc (W := W.drew) (.cells cur' e))
      refine hK _ _ ok _ hT' hP ?_ (fun x y hxy => Rel_mono hl (fun _ h => h) locs_push hxy)
      exact rel_new hlb (by omega) h1 (shape_new W.drew cur' e) (by rw [h2]; exact Nat.le_refl _) rfl

/-! ### copy -/
theorem copy_exec {o : Oper} {s x : Operand} {t t2 : TypeId} (ho : o.op = .call { callee := .builtin .copy, args := #[s, x], argTypes := #[t, t2] }) {rv : Operand → Value} {u : Value} (h : (Builtin.copy_ #[t, t2] o.type #[rv s, rv x]).run P W = .ok u W') : (execOp rv o).run P W = .ok (.value u) W' := by
  obtain ⟨dst, op, ty', pos, after, guard⟩ := o
  simp only at ho h
  subst ho
  simp [execOp, resolve, invoke, builtin, h]

theorem copy_run (hT : TabOk P tab) {t t2 e : TypeId} {d : TyD} (hdesc : P.underlying t = some (.slice e)) (hd : tab e = some d) (hsz : d.sz = 1) {ty : TypeId} {g o : Nat} {n c : Nat} {A : Option Addr} {m c' : Nat} {news : List Value} (hl : news.length = m) (hA : (A = none ∧ m = 0) ∨ ∃ ad, A = some ad ∧ At W ad news)
    {cur : Array Value} {te : TypeId} (hh : W.heap[g]? = some (.cells cur te (0, 0))) (hfit : o + n ≤ cur.size) (h1 : ∀ w, w ∈ news → w.oneCell' = true) :
    (Builtin.copy_ #[t, t2] ty #[.slice (some ⟨g, o, none⟩) n c, .slice A m c']).run P W = .ok (.int .i64 (min m n : Nat)) (W.setRow g (cur.toList.take o ++ news.take n ++ cur.toList.drop (o + (news.take n).length)).toArray) := by
  obtain ⟨z, hz⟩ := hT _ _ hd
  have hst := run_storeCells_at P g o te (news.take n) 0 cur W hh (by simp; omega) (fun w hw => h1 w (List.mem_of_mem_take hw))
  simp only [Nat.add_zero] at hst
  have hmin : Nat.min m n = min m n := rfl
  rcases hA with ⟨rfl, rfl⟩ | ⟨ad, rfl, hat⟩
  · have hn : news = [] := List.eq_nil_of_length_eq_zero hl
    subst hn
    simp only [List.take_nil] at hst
    simp [Builtin.copy_, run_underlying hdesc, Builtin.lenOf, hz.sizeOf, Builtin.firstCells, hst, goInt, hmin]
  · have hld := run_loadCells_list (P := P) (w := W) ad (news.take n) (fun j v hj => hat j v (by
      rw [List.getElem?_take] at hj
      split at hj
      · exact hj
      · simp at hj))
    have hlt : (news.take n).length = min m n := by rw [List.length_take, hl, Nat.min_comm]
    rw [hlt] at hld
    simp [Builtin.copy_, run_underlying hdesc, Builtin.lenOf, hz.sizeOf, Builtin.firstCells, hsz, hld, hst, goInt, hmin]

/-- copy into a block of whole numbers. -/
theorem OpS.copy (hT : TabOk P tab) {o : Oper} {ev : Operand → AV} {s x : Operand} {t t2 e : TypeId} (ho : o.op = .call { callee := .builtin .copy, args := #[s, x], argTypes := #[t, t2] }) {d0 d : TyD} (ht : tab t = some d0) (hk : d0.tk = .slice e) (hd : tab e = some d) (hsz : d.sz = 1)
    {k : IntKind} {l' l : List Int} (hx : elsOf H (ev x) = some (.I k l')) {b off len ty : Nat} (hb : hget H b = .I ty k l) (hlen : off + len ≤ l.length)
    (hs : (∃ cap, ev s = .ref b 1 off len cap) ∨ (ev s = .vec b 1 ∧ off = 0 ∧ len = l.length)) :
    OpS P o ev H .id (.int .i64 (min l'.length len : Nat)) (hset H b (.I ty k (splice l off (l'.take len)))) := by
  obtain ⟨z0, hz0⟩ := hT _ _ ht
  have hdesc : P.underlying t = some (.slice e) := by have := hz0.desc; rwa [hk] at this
  have hlive : (hget H b).live = true := by rw [hb]; rfl
  intro Q a W ok ρ hr hH K hK
  have hrs := hr s (by rw [ho]; simp [Op.operands, Call.operands])
  have hrx := hr x (by rw [ho]; simp [Op.operands, Call.operands])
  obtain ⟨news, m, hsrc⟩ := src_ok hH hx (d := d) hsz hrx
  obtain ⟨A, c', eu, hA⟩ := hsrc.val
  have hels := hsrc.els
  simp only at hels
  have hml : news.length = m := by rw [hsrc.len, hsz, Nat.mul_one]
  have hsplen : (splice l off (l'.take len)).length = l.length := by
    unfold splice
    simp only [List.length_append, List.length_take, List.length_drop]
    omega
  -- where it goes
  have hdst : (a.eval s = .slice none 0 0 ∧ len = 0) ∨ ∃ g o' c cur, ρ b = some g ∧ a.eval s = .slice (some ⟨g, o', none⟩) len c ∧ W.heap[g]? = some (.cells cur ty (0, 0)) ∧ Pre cur (l.map (.int k)) ∧ (0 < len → o' = off) ∧ (len = 0 → o' + len ≤ cur.size ∨ True) := by
    have hbk := hH.blk b
    rw [hb] at hbk
    rcases hs with ⟨cap, hs⟩ | ⟨hs, rfl, rfl⟩
    · rw [hs, rel_ref] at hrs
      rcases hrs with ⟨h0, _, h⟩ | ⟨loc, g, c, o', T, mm, hloc, hg, h, hlc, hcap, ho', hsh, hmm, hln⟩
      · exact .inl ⟨h, h0⟩
      · obtain ⟨_, hlg, _⟩ := locs_some hloc
        have hρ : ρ b = some g := by rw [← hlg, hg]
        rw [hρ] at hbk
        obtain ⟨cur, h1, h2⟩ := hbk
        exact .inr ⟨g, o', c, cur, hρ, h, h1, h2, fun hp => by have := ho' (by omega); omega, fun _ => .inr trivial⟩
    · rw [hs, rel_vec] at hrs
      obtain ⟨loc, hloc, hrs⟩ := hrs
      obtain ⟨_, hlg, hln⟩ := locs_some hloc
      rw [hb] at hln
      simp only [Blk.len] at hln
      rcases hrs with ⟨hg0, hn0, h⟩ | ⟨g, c, T, mm, hg, h, hnc, hsh, hcm⟩
      · exact .inl ⟨by rw [h], by omega⟩
      · have hρ : ρ b = some g := by rw [← hlg, hg]
        rw [hρ] at hbk
        obtain ⟨cur, h1, h2⟩ := hbk
        exact .inr ⟨g, 0, c, cur, hρ, by rw [h, hln], h1, h2, fun _ => rfl, fun _ => .inr trivial⟩
  have hnil : len = 0 → splice l off (l'.take len) = l := by
    intro h0
    subst h0
    simp [splice]
  have hsame : len = 0 → ∀ u, (execOp a.eval o).run P W = .ok (.value u) W → u = .int .i64 0 → o.wp P a W K Q := by
    intro h0 u hrun hu
    subst hu
    unfold Oper.wp
    rw [hrun]
    have heq : ∀ c, hget H c = hget (hset H b (.I ty k (splice l off (l'.take len)))) c := by
      intro c
      rw [hget_hset_live hlive]
      split
      · rename_i e; rw [e, hb, hnil h0]
      · rfl
    refine hK _ W ok ρ (Trans.refl.congr heq) (hH.congr heq) ?_ (fun x y hxy => by rw [← locs_congr heq]; exact hxy)
    rw [rel_int, h0]
    simp
  rcases hdst with ⟨hv, h0⟩ | ⟨g, o', c, cur, hρ, hv, hh, hp, ho', _⟩
  · obtain ⟨z, hz⟩ := hT _ _ hd
    refine hsame h0 (.int .i64 0) (copy_exec ho ?_) rfl
    rw [hv, eu]
    rcases hA with ⟨rfl, hm0⟩ | ⟨ad, rfl, hat⟩
    · subst hm0
      simp [Builtin.copy_, run_underlying hdesc, Builtin.lenOf, hz.sizeOf, Builtin.firstCells, goInt]
    · simp [Builtin.copy_, run_underlying hdesc, Builtin.lenOf, hz.sizeOf, Builtin.firstCells, loadCells, loadCellsFrom, goInt]
  · have hcl := Pre_len hp
    simp only [List.length_map] at hcl
    rcases Nat.eq_zero_or_pos len with h0 | h0
    · obtain ⟨z, hz⟩ := hT _ _ hd
      refine hsame h0 (.int .i64 0) (copy_exec ho ?_) rfl
      rw [hv, eu, h0]
      rcases hA with ⟨rfl, hm0⟩ | ⟨ad, rfl, hat⟩
      · subst hm0
        simp [Builtin.copy_, run_underlying hdesc, Builtin.lenOf, hz.sizeOf, Builtin.firstCells, goInt, storeCells]
      · simp [Builtin.copy_, run_underlying hdesc, Builtin.lenOf, hz.sizeOf, Builtin.firstCells, loadCells, loadCellsFrom, goInt, storeCells]
    · have hoo := ho' h0
      subst hoo
      have hrun := copy_run (P := P) (W := W) hT hdesc hd hsz (t2 := t2) (ty := o.type) (c := c) (c' := c') hml hA hh (o := o') (n := len) (by omega) hsrc.one
      unfold Oper.wp
      rw [copy_exec ho (by rw [hv, eu]; exact hrun)]
      have hpc := put_cells (cur := cur) (vs := news.take len) (o := o') (by rw [List.length_take]; omega)
      have hTr := trans_setRow (x := .I ty k (splice l o' (l'.take len))) (ok := ok) hlive hρ hh hpc.1
      refine hK _ _ ok ρ hTr ?_ ?_ ?_
      · refine hH.setRow hlive hρ hh hpc.1 ⟨_, heap_setRow_same hh, ?_⟩
        rcases Pre_put (vs := news.take len) (o := o') hp (by rw [List.length_take]; omega) with hpp | hpp
        · have e1 : (splice l o' (l'.take len)).map (Value.int k) = (l.map (.int k)).take o' ++ news.take len ++ (l.map (.int k)).drop (o' + (news.take len).length) := by
            unfold splice
            rw [hels.2]
            simp [List.map_take, List.map_drop]
          rw [e1]
          exact hpp
        · simp at hpp
          omega
      · rw [rel_int, hels.1]
      · intro x y hxy
        rw [Tr.app, locs_set hlive rfl (by rw [hb]; simpa [Blk.len] using hsplen)]
        exact Rel_mono (hTr.later hH) (fun _ h => h) (fun _ _ h => h) hxy
end
end Go.RX
