/- Regions in the order of the text. -/
import Derived.Test.YtandibmpaamfbaaRs
set_option linter.unusedVariables false
set_option linter.unusedSimpArgs false
namespace Go.RX

def opf (f : Nat → AV) : Operand → AV
  | .tmp t => f t
  | .const v => constOf v
  | .global _ => .dead
  | .func g => .fn g

theorem opnd_opf (T : Tm) : opnd T = opf (tget T) := by
  funext x
  cases x <;> rfl

section
variable {P : Program} {tab : Tab} {W W' : World} {ok ok' : Nat → Prop} {ρ ρ' : Nat → Option Nat} {H H' : List Blk} {R R' : Nat → Option Loc}

theorem constOf1_ok (v : Value) (hn : ∀ cs, v ≠ .agg cs) : Rel W ok R (constOf1 v) v := by
  unfold constOf1
  split
  · rw [rel_int]
  · rw [rel_bool]
  · rw [rel_str]
  · rw [rel_nilS]
  · rw [rel_nilI]
  · rw [rel_nilP]
  · rw [rel_nilF]
  · exact rel_dead

theorem constX (v : Value) : X W ok R (constOf1 v) [v] := by
  unfold constOf1
  split <;> simp [X]

theorem constC : ∀ (l : List Value), C W ok R 1 (l.map constOf1) l
  | [] => by simp [C]
  | v :: l => by
    simp only [List.map_cons, C]
    exact ⟨[v], l, rfl, rfl, constX v, constC l⟩

theorem constOf_ok (v : Value) : Rel W ok R (constOf v) v := by
  unfold constOf
  split
  · rename_i cs
    rw [rel_agg]
    exact ⟨cs, rfl, constC _⟩
  · rename_i h
    exact constOf1_ok v h

/-- The temporaries are as told. -/
def TR (W : World) (ok : Nat → Prop) (R : Nat → Option Loc) (f : Nat → AV) (a : Act) : Prop := ∀ t, Rel W ok R (f t) (a.tmps.getD t undef)

theorem opf_ok {f : Nat → AV} {a : Act} {x : Operand} (h : ∀ t, x = .tmp t → Rel W ok R (f t) (a.tmps.getD t undef)) : Rel W ok R (opf f x) (a.eval x) := by
  cases x with
  | tmp t => exact h t rfl
  | const v => exact constOf_ok v
  | global g => exact rel_dead
  | func g => simp only [opf, Act.eval, rel_fn]

def putf (f : Nat → AV) (d : Option Nat) (v : AV) : Nat → AV :=
  match d with
  | none => f
  | some d => fun t => if t = d then v else f t

theorem tget_put {T : Tm} {d : Nat} {v : AV} : tget ((d, v) :: T) = putf (tget T) (some d) v := by
  funext t
  simp only [tget, putf]
  by_cases h : t = d
  · subst h; simp
  · have h1 : Nat.beq d t = false := by
      cases hb : Nat.beq d t
      · rfl
      · exact absurd (Nat.eq_of_beq_eq_true hb).symm h
    simp [h, h1]

theorem tput_some {N : Nat} {T T' : Tm} {d : Option Nat} {v : AV} (h : tput N T d v = some T') : tget T' = putf (tget T) d v ∧ ∀ d', d = some d' → d' < N := by
  unfold tput at h
  split at h
  · simp only [Option.some.injEq] at h
    subst h
    exact ⟨rfl, by simp⟩
  · obtain ⟨hb, h⟩ := cond_none_some h
    simp only [Option.some.injEq] at h
    subst h
    exact ⟨tget_put, fun d' e => by simp only [Option.some.injEq] at e; subst e; simpa using hb⟩

theorem app_dead (τ : Tr) : τ.app .dead = .dead := by
  cases τ with
  | id => rfl
  | kill b => simp [Tr.app, mentions]
  | fz H bs => simp [Tr.app, frz]

theorem tget_map (τ : Tr) : ∀ (T : Tm) (t : Nat), tget (T.map fun p => (p.1, τ.app p.2)) t = τ.app (tget T t)
  | [], t => by simp [tget, app_dead]
  | (n, x) :: r, t => by
    simp only [List.map_cons, tget]
    cases Nat.beq n t
    · simpa using tget_map τ r t
    · rfl

theorem tget_app (τ : Tr) (T : Tm) : tget (τ.appT T) = fun t => τ.app (tget T t) := by
  funext t
  cases τ with
  | id => rfl
  | kill b => exact tget_map _ T t
  | fz H bs => exact tget_map _ T t

/-- An operation in its region, with its guard. -/
def OpW (P : Program) (ops : Array Oper) (o : Oper) (f : Nat → AV) (H : List Blk) (τ : Tr) (v : AV) (H' : List Blk) : Prop :=
  ∀ (Q : Exit → Act → World → Prop) (a : Act) (W : World) (ok : Nat → Prop) (ρ : Nat → Option Nat),
    (∀ t, t ∈ readsOf ops.toList o → Rel W ok (locs ρ H) (f t) (a.tmps.getD t undef)) → HeapOk W ok ρ H →
    ∀ K : Act → World → Prop, (∀ u W' ok' ρ', Trans W W' ok ok' ρ H ρ' H' → HeapOk W' ok' ρ' H' → Rel W' ok' (locs ρ' H') v u →
      (∀ x y, Rel W ok (locs ρ H) x y → Rel W' ok' (locs ρ' H') (τ.app x) y) → K (a.put o.dst u) W') →
      if Region.wanted o (yielded ops a.tmps) = true then o.wp P a W K Q ∨ (o.asks P a W ∧ LetsOut Q) else K (a.put o.dst undef) W

structure GoodW (P : Program) (ops : Array Oper) (o : Oper) (f : Nat → AV) (H : List Blk) (kd : Nat) (τ : Tr) (v : AV) (H' : List Blk) : Prop where
  main : OpW P ops o f H τ v H'
  k0 : kd = 0 → ∀ H2, OpW P ops o f H2 .id v H2
  k1 : kd = 0 ∨ kd = 1 → H' = H
  k2 : kd = 0 ∨ kd = 1 ∨ kd = 2 → τ = .id

theorem getD_bool {a : Act} {d : Nat} {b : Bool} (h : a.tmps.getD d undef = .bool b) : a.tmps[d]? = some (.bool b) := by
  rw [Array.getD_eq_getD_getElem?] at h
  cases hd : a.tmps[d]? with
  | none => rw [hd] at h; simp [undef] at h
  | some v => rw [hd] at h; simpa using h

def guardOn (ops : List Oper) (o : Oper) (f : Nat → AV) : Prop :=
  o.guard = none ∨ ∃ j b d, o.guard = some (j, b) ∧ dstOf ops j = some d ∧ f d = .bool b
def guardOff (ops : List Oper) (o : Oper) (f : Nat → AV) : Prop :=
  ∃ j b d, o.guard = some (j, b) ∧ dstOf ops j = some d ∧ (f d = .bool (!b) ∨ f d = .tup [])

theorem dstOf_arr {ops : Array Oper} {j : Nat} : (ops[j]?).bind (·.dst) = dstOf ops.toList j := by
  unfold dstOf
  rw [Array.getElem?_toList]

theorem wanted_on {ops : Array Oper} {o : Oper} {f : Nat → AV} {a : Act} (h : guardOn ops.toList o f) (hr : ∀ t, t ∈ readsOf ops.toList o → Rel W ok R (f t) (a.tmps.getD t undef)) : Region.wanted o (yielded ops a.tmps) = true := by
  unfold Region.wanted
  rcases h with h | ⟨j, b, d, h, hd, hf⟩
  · rw [h]
  · rw [h]
    have h1 := hr d (by simp [readsOf, h, hd])
    rw [hf, rel_bool] at h1
    simp [yielded, dstOf_arr, hd, getD_bool h1]

theorem wanted_off {ops : Array Oper} {o : Oper} {f : Nat → AV} {a : Act} (h : guardOff ops.toList o f) (hr : ∀ t, t ∈ readsOf ops.toList o → Rel W ok R (f t) (a.tmps.getD t undef)) : Region.wanted o (yielded ops a.tmps) = false := by
  unfold Region.wanted
  obtain ⟨j, b, d, h, hd, hf⟩ := h
  rw [h]
  have h1 := hr d (by simp [readsOf, h, hd])
  rcases hf with hf | hf
  · rw [hf, rel_bool] at h1
    simp [yielded, dstOf_arr, hd, getD_bool h1]
  · rw [hf, rel_tup] at h1
    obtain ⟨cs, h1, h2⟩ := h1
    rw [Array.getD_eq_getD_getElem?] at h1
    cases ht : a.tmps[d]? with
    | none => simp [yielded, dstOf_arr, hd, ht]
    | some v =>
      rw [ht] at h1
      simp only [Option.getD_some] at h1
      subst h1
      simp [yielded, dstOf_arr, hd, ht]

theorem OpW.on {ops : Array Oper} {o : Oper} {f : Nat → AV} {τ : Tr} {v : AV} (h : guardOn ops.toList o f) (hs : OpS P o (opf f) H τ v H') : OpW P ops o f H τ v H' := by
  intro Q a W ok ρ hr hH K hK
  rw [if_pos (wanted_on h hr)]
  refine .inl (hs Q a W ok ρ ?_ hH K hK)
  intro x hx
  refine opf_ok fun t e => hr t ?_
  subst e
  simp only [readsOf, List.mem_append, List.mem_filterMap]
  exact .inl ⟨_, hx, rfl⟩

theorem OpW.off {ops : Array Oper} {o : Oper} {f : Nat → AV} (h : guardOff ops.toList o f) : OpW P ops o f H .id (.tup []) H := by
  intro Q a W ok ρ hr hH K hK
  rw [if_neg (by rw [wanted_off h hr]; simp)]
  refine hK undef W ok ρ Trans.refl hH ?_ (fun x y h => h)
  rw [rel_tup]
  exact ⟨#[], rfl, by simp [All2]⟩

theorem GoodW.on {ops : Array Oper} {o : Oper} {f : Nat → AV} {kd : Nat} {τ : Tr} {v : AV} (h : guardOn ops.toList o f) (hs : Good P o (opf f) H kd τ v H') : GoodW P ops o f H kd τ v H' :=
  ⟨.on h hs.main, fun e H2 => .on h (hs.k0 e H2), hs.k1, hs.k2⟩
theorem GoodW.off {ops : Array Oper} {o : Oper} {f : Nat → AV} (h : guardOff ops.toList o f) : GoodW P ops o f H 0 .id (.tup []) H :=
  ⟨.off h, fun e H2 => .off h, fun _ => rfl, fun _ => rfl⟩

/-- A region's run, in the order of the text. -/
inductive Path (P : Program) (ops : Array Oper) (N : Nat) : List Oper → (Nat → AV) → List Blk → (Nat → AV) → List Blk → List Nat → Prop
  | nil (f : Nat → AV) (H : List Blk) : Path P ops N [] f H f H []
  | cons {o : Oper} {rest : List Oper} {f : Nat → AV} {H : List Blk} {kd : Nat} {τ : Tr} {v : AV} {H1 : List Blk} {f' : Nat → AV} {H' : List Blk} {ks : List Nat}
      (good : GoodW P ops o f H kd τ v H1) (hd : ∀ d, o.dst = some d → d < N) (h : Path P ops N rest (putf (fun t => τ.app (f t)) o.dst v) H1 f' H' ks) : Path P ops N (o :: rest) f H f' H' (kd :: ks)

theorem optC_some {α X : Type} {y : Option α} {K : α → Option X} {x : X} (h : optC y K = some x) : ∃ a, y = some a ∧ K a = some x := by
  cases y with
  | none => simp [optC] at h
  | some a => exact ⟨a, rfl, h⟩

theorem tget_same {T : Tm} {d : Nat} {b : Bool} (h : tget T d = .bool b) : tget ((d, .bool b) :: T) = tget T := by
  rw [tget_put]
  funext t
  simp only [putf]
  split
  · rename_i e; rw [e, h]
  · rfl

theorem evOps_ok {X : Type} (E : Env X) (hT : TabOk P E.tab) (hct : ∀ g C, E.ct g = some C → CtrOk P g C) {ops : Array Oper} : ∀ {rest : List Oper} {T : Tm} {H : List Blk} {ks : List Nat} {K : Tm → List Blk → List Nat → Option X} {x : X},
    evOps E ops.toList rest T H ks K = some x → ∃ T' H' ks', Path P ops E.N rest (tget T) H (tget T') H' ks' ∧ K T' H' (ks ++ ks') = some x
  | [], T, H, ks, K, x, h => ⟨T, H, [], .nil _ _, by simpa [evOps] using h⟩
  | o :: rest, T, H, ks, K, x, h => by
    have hexec : ∀ (T1 : Tm), tget T1 = tget T → guardOn ops.toList o (tget T) → (evOp E.tab E.ct (opnd T1) H o fun kd τ v H' => optC (tput E.N (τ.appT T1) o.dst v) fun T' => evOps E ops.toList rest T' H' (ks ++ [kd]) K) = some x →
        ∃ T' H' ks', Path P ops E.N (o :: rest) (tget T) H (tget T') H' ks' ∧ K T' H' (ks ++ ks') = some x := by
      intro T1 hT1 hg h
      obtain ⟨kd, τ, v, H1, h, hgood⟩ := evOp_ok hT hct h
      obtain ⟨T2, ht2, h⟩ := optC_some h
      obtain ⟨T3, H3, ks3, hp, h⟩ := evOps_ok E hT hct h
      obtain ⟨e2, hd⟩ := tput_some ht2
      refine ⟨T3, H3, kd :: ks3, .cons (τ := τ) (v := v) (H1 := H1) (.on hg ?_) hd ?_, by simpa using h⟩
      · rw [← hT1, ← opnd_opf]; exact hgood
      · rw [e2, tget_app, hT1] at hp; exact hp
    have hskip : ∀ (T1 : Tm), tget T1 = tget T → guardOff ops.toList o (tget T) → (optC (tput E.N T1 o.dst (.tup [])) fun T' => evOps E ops.toList rest T' H (ks ++ [0]) K) = some x →
        ∃ T' H' ks', Path P ops E.N (o :: rest) (tget T) H (tget T') H' ks' ∧ K T' H' (ks ++ ks') = some x := by
      intro T1 hT1 hg h
      obtain ⟨T2, ht2, h⟩ := optC_some h
      obtain ⟨T3, H3, ks3, hp, h⟩ := evOps_ok E hT hct h
      obtain ⟨e2, hd⟩ := tput_some ht2
      refine ⟨T3, H3, 0 :: ks3, .cons (τ := .id) (v := .tup []) (H1 := H) (.off hg) hd ?_, by simpa using h⟩
      rw [e2, hT1] at hp; exact hp
    simp only [evOps] at h
    split at h
    · rename_i hg
      exact hexec T rfl (.inl hg) h
    · rename_i j b hg
      split at h
      · simp at h
      · rename_i d hd
        split at h
        · rename_i c hc
          cases b <;> cases c
          · exact hexec _ (tget_same hc) (.inr ⟨j, _, d, hg, hd, hc⟩) h
          · exact hskip _ (tget_same hc) ⟨j, _, d, hg, hd, .inl hc⟩ h
          · exact hskip _ (tget_same hc) ⟨j, _, d, hg, hd, .inl hc⟩ h
          · exact hexec _ (tget_same hc) (.inr ⟨j, _, d, hg, hd, hc⟩) h
        · rename_i hc
          exact hskip _ rfl ⟨j, _, d, hg, hd, .inr hc⟩ h
        · simp at h

theorem put_getD {a : Act} {d : Option Nat} {u : Value} {t : Nat} (hd : ∀ d', d = some d' → d' < a.tmps.size) : (a.put d u).tmps.getD t undef = if d = some t then u else a.tmps.getD t undef := by
  cases d with
  | none => simp [Act.put]
  | some d =>
    have := hd d rfl
    simp only [Act.put, Array.getD_eq_getD_getElem?, Array.getElem?_setIfInBounds, Option.some.injEq]
    by_cases h : d = t
    · subst h; simp [this]
    · simp [h]

theorem put_size {a : Act} {d : Option Nat} {u : Value} : (a.put d u).tmps.size = a.tmps.size := by
  cases d <;> simp [Act.put]
theorem put_defers {a : Act} {d : Option Nat} {u : Value} : (a.put d u).defers = a.defers := by
  cases d <;> simp [Act.put]

theorem TR.put {f : Nat → AV} {a : Act} {d : Option Nat} {u : Value} {τ : Tr} {v : AV} {W1 W2 : World} {ok1 ok2 : Nat → Prop} {R1 R2 : Nat → Option Loc} (h : TR W1 ok1 R1 f a) (ht : ∀ x y, Rel W1 ok1 R1 x y → Rel W2 ok2 R2 (τ.app x) y) (hv : Rel W2 ok2 R2 v u) (hd : ∀ d', d = some d' → d' < a.tmps.size) :
    TR W2 ok2 R2 (putf (fun t => τ.app (f t)) d v) (a.put d u) := by
  intro t
  rw [put_getD hd]
  cases d with
  | none => simpa [putf] using ht _ _ (h t)
  | some d =>
    simp only [putf, Option.some.injEq]
    by_cases e : d = t
    · subst e; simpa using hv
    · rw [if_neg (fun e' => e e'.symm), if_neg e]
      exact ht _ _ (h t)

theorem seq_ok {ops : Array Oper} {N : Nat} {rest : List Oper} {f f' : Nat → AV} {H H' : List Blk} {ks : List Nat} (hp : Path P ops N rest f H f' H' ks) :
    ∀ {pre : List Oper}, ops.toList = pre ++ rest → ∀ (Q : Exit → Act → World → Prop) (a : Act) (W : World) (ok : Nat → Prop) (ρ : Nat → Option Nat), TR W ok (locs ρ H) f a → HeapOk W ok ρ H → a.tmps.size = N →
      (∀ a' W' ok' ρ', Trans W W' ok ok' ρ H ρ' H' → HeapOk W' ok' ρ' H' → TR W' ok' (locs ρ' H') f' a' → a'.tmps.size = N → a'.defers = a.defers → Q .normal a' W') → wpOps P ops Q (List.range' pre.length rest.length) a W := by
  induction hp with
  | nil f H =>
    intro pre hpre Q a W ok ρ hr hH hs hQ
    exact hQ a W ok ρ Trans.refl hH hr hs rfl
  | cons good hd hp ih =>
    rename_i o rest f H kd τ v H1 f' H' ks
    intro pre hpre Q a W ok ρ hr hH hs hQ
    rw [List.length_cons, List.range'_succ, wpOps_cons]
    have ho : ops[pre.length]? = some o := by
      rw [← Array.getElem?_toList, hpre]
      simp
    simp only [wpOp, ho]
    refine good.main Q a W ok ρ (fun t _ => hr t) hH _ ?_
    intro u W1 ok1 ρ1 hT1 hH1 hv ht
    have hd' : ∀ d', o.dst = some d' → d' < a.tmps.size := fun d' e => by rw [hs]; exact hd d' e
    have := ih (pre := pre ++ [o]) (by simpa using hpre) Q (a.put o.dst u) W1 ok1 ρ1 (hr.put ht hv hd') hH1 (by rw [put_size, hs]) (fun a' W' ok' ρ' t h1 h2 h3 h4 => hQ a' W' ok' ρ' (hT1.trans t) h1 h2 h3 (by rw [h4, put_defers]))
    simpa using this
end
end Go.RX
