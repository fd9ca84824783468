/- What other values become: a block frozen, a block grown. Views of slices of the call's own. -/
import Derived.Test.YtandibmpaamfbaaRj
set_option linter.unusedVariables false
set_option linter.unusedSimpArgs false
namespace Go.RX
section
variable {W W' : World} {ok ok' : Nat → Prop} {ρ ρ' : Nat → Option Nat} {H H' : List Blk} {R R' : Nat → Option Loc}

/-- What is told of the blocks that a value leads to stays told. -/
def KnowsOf (p : Nat → Bool) (R R' : Nat → Option Loc) : Prop := ∀ b loc, p b = true → R b = some loc → R' b = some loc

mutual
theorem X_mono2 (hl : Later W W' ok) (ho : ∀ g, ok g → ok' g) {R R' : Nat → Option Loc} : ∀ (x : AV) (cs : List Value), KnowsOf (fun b => mentions b x) R R' → X W ok R x cs → X W' ok' R' x cs
  | .dead, cs, hk, h => trivial
  | .int k n, cs, hk, h => by simpa only [X] using h
  | .bool b, cs, hk, h => by simpa only [X] using h
  | .str s, cs, hk, h => by simpa only [X] using h
  | .nilS, cs, hk, h => by simpa only [X] using h
  | .nilI, cs, hk, h => by simpa only [X] using h
  | .nilP, cs, hk, h => by simpa only [X] using h
  | .nilF, cs, hk, h => by simpa only [X] using h
  | .fn f, cs, hk, h => by simpa only [X] using h
  | .ints k l, cs, hk, h => by have := X_mono hl ho (R := noLoc) (R' := noLoc) (fun _ _ h => h) (.ints k l) cs (by simpa only [X] using h); simpa only [X] using this
  | .list e l, cs, hk, h => by have := X_mono hl ho (R := noLoc) (R' := noLoc) (fun _ _ h => h) (.list e l) cs (by simpa only [X] using h); simpa only [X] using this
  | .elem x, cs, hk, h => by have := X_mono hl ho (R := noLoc) (R' := noLoc) (fun _ _ h => h) (.elem x) cs (by simpa only [X] using h); simpa only [X] using this
  | .agg l, cs, hk, h => by
    simp only [X] at h ⊢
    exact C_mono2 hl ho l 1 cs (fun b loc hb => hk b loc (by simpa [mentions] using hb)) h
  | .tup l, cs, hk, h => by simp only [X] at h
  | .iface t x, cs, hk, h => by
    simp only [X] at h ⊢
    obtain ⟨y, e, h⟩ := h
    exact ⟨y, e, lift_mono (fun cs hc => X_mono2 hl ho x cs (fun b loc hb => hk b loc (by simpa [mentions] using hb)) hc) h⟩
  | .vec b sz, cs, hk, h => by
    simp only [X] at h ⊢
    obtain ⟨loc, e, h⟩ := h
    refine ⟨loc, hk _ _ (by simp [mentions]) e, ?_⟩
    rcases h with h | ⟨g, c, T, m, h1, h2, h3, h4, h5⟩
    · exact .inl h
    · exact .inr ⟨g, c, T, m, h1, h2, h3, hl.shape _ _ _ h4, h5⟩
  | .ref b sz off len cap, cs, hk, h => by
    simp only [X] at h ⊢
    rcases h with h | ⟨loc, g, c, o, T, m, h1, h2, h3, h4, h5, h6, h7, h8⟩
    · exact .inl h
    · exact .inr ⟨loc, g, c, o, T, m, hk _ _ (by simp [mentions]) h1, h2, h3, h4, h5, h6, hl.shape _ _ _ h7, h8⟩
  | .ptr b sz i o, cs, hk, h => by
    simp only [X] at h ⊢
    obtain ⟨loc, g, h1, h2⟩ := h
    exact ⟨loc, g, hk _ _ (by simp [mentions]) h1, h2⟩
theorem C_mono2 (hl : Later W W' ok) (ho : ∀ g, ok g → ok' g) {R R' : Nat → Option Loc} : ∀ (xs : List AV) (m : Nat) (cs : List Value), KnowsOf (fun b => mentionsL b xs) R R' → C W ok R m xs cs → C W' ok' R' m xs cs
  | [], m, cs, hk, h => by simpa only [C] using h
  | x :: xs, m, cs, hk, h => by
    simp only [C] at h ⊢
    obtain ⟨c, d, e, hm, hx, hd⟩ := h
    exact ⟨c, d, e, hm, X_mono2 hl ho x c (fun b loc hb => hk b loc (by simp [mentionsL, hb])) hx, C_mono2 hl ho xs m d (fun b loc hb => hk b loc (by simp [mentionsL, hb])) hd⟩
end

theorem All2_Rel0_mono2 (hl : Later W W' ok) (ho : ∀ g, ok g → ok' g) : ∀ {l : List AV} {us : List Value}, KnowsOf (fun b => mentionsL b l) R R' → All2 (Rel0 W ok R) l us → All2 (Rel0 W' ok' R') l us
  | [], _, _, h => h
  | x :: xs, _, hk, ⟨u, us, e, h, hr⟩ =>
    ⟨u, us, e, lift_mono (fun cs hc => X_mono2 hl ho x cs (fun b loc hb => hk b loc (by simp [mentionsL, hb])) hc) h, All2_Rel0_mono2 hl ho (fun b loc hb => hk b loc (by simp [mentionsL, hb])) hr⟩

theorem Rel_mono2 (hl : Later W W' ok) (ho : ∀ g, ok g → ok' g) {x : AV} {v : Value} (hk : KnowsOf (fun b => mentions b x) R R') (h : Rel W ok R x v) : Rel W' ok' R' x v := by
  unfold Rel at *
  split at h
  · obtain ⟨cs, e, h⟩ := h
    exact ⟨cs, e, All2_Rel0_mono2 hl ho (fun b loc hb => hk b loc (by simpa [mentions] using hb)) h⟩
  · trivial
  · exact lift_mono (fun cs hc => X_mono2 hl ho x cs hk hc) h

/-- A block is grown: who leads to another block, or to none, is as before. -/
theorem Rel_kill (hl : Later W W' ok) (ho : ∀ g, ok g → ok' g) {b : Nat} (hk : ∀ b' loc, b' ≠ b → R b' = some loc → R' b' = some loc) {x : AV} {v : Value} (h : Rel W ok R x v) : Rel W' ok' R' ((Tr.kill b).app x) v := by
  simp only [Tr.app]
  cases hm : mentions b x
  · rw [cond_false]
    refine Rel_mono2 hl ho (fun b' loc hb h => hk b' loc ?_ h) h
    rintro rfl
    simp only [hm, Bool.false_eq_true] at hb
  · rw [cond_true]
    exact rel_dead

/-! ### freezing -/
theorem isAgg_view {x : AV} (hx : x.isAgg = false) : (view H x).isAgg = false := by
  cases x with
  | vec b sz => simp only [view]; cases hget H b <;> rfl
  | ref b sz off len cap =>
    simp only [view]
    cases hget H b with
    | dead => rfl
    | I ty k l => simp only; cases Nat.beq sz 1 <;> rfl
    | A ty e l => simp only; cases Nat.beq sz e.sz <;> rfl
  | _ => exact hx
theorem isAgg_frz {bs : List Nat} {x : AV} : (frz H bs x).isAgg = x.isAgg := by
  cases x with
  | vec b sz => simp only [frz]; cases hasN bs b; rfl; exact isAgg_view (x := .vec b sz) rfl
  | ref b sz off len cap => simp only [frz]; cases hasN bs b; rfl; exact isAgg_view (x := .ref b sz off len cap) rfl
  | ptr b sz i o => simp only [frz]; cases hasN bs b <;> rfl
  | _ => rfl
theorem hasN_iff {l : List Nat} {n : Nat} : hasN l n = true ↔ n ∈ l := by
  induction l with
  | nil => simp [hasN]
  | cons x xs ih =>
    simp only [hasN, List.mem_cons]
    cases hb : Nat.beq x n
    · have : x ≠ n := fun e => by subst e; simp at hb
      simp [ih, Ne.symm this]
    · simp [Nat.eq_of_beq_eq_true hb]

theorem hget_killH {bs : List Nat} : ∀ {H : List Blk} (b : Nat), hget (killH H bs) b = if b ∈ bs then .dead else hget H b := by
  induction bs with
  | nil => intro H b; simp [killH]
  | cons x xs ih =>
    intro H b
    simp only [killH, ih, hget_hset, List.mem_cons]
    by_cases h1 : b ∈ xs
    · simp [h1]
    · simp only [h1, if_false, or_false]
      by_cases h2 : b = x
      · subst h2
        simp only [true_and, if_true]
        split
        · rfl
        · rename_i h3
          exact hget_ge (by omega)
      · simp [h2]
theorem killH_length {bs : List Nat} : ∀ {H : List Blk}, (killH H bs).length = H.length := by
  induction bs with
  | nil => intro H; rfl
  | cons x xs ih => intro H; simp [killH, ih, hset_length]

def okF (ok : Nat → Prop) (ρ : Nat → Option Nat) (H : List Blk) (bs : List Nat) : Nat → Prop := fun g => ok g ∨ ∃ b, b ∈ bs ∧ (hget H b).live = true ∧ ρ b = some g

theorem mut_kill {bs : List Nat} {g : Nat} (h : mutg ρ (killH H bs) g) : mutg ρ H g := by
  obtain ⟨b, hl, hb⟩ := h
  rw [hget_killH] at hl
  split at hl
  · simp [Blk.live] at hl
  · exact ⟨b, hl, hb⟩

theorem trans_freeze (bs : List Nat) : Trans W W ok (okF ok ρ H bs) ρ H ρ (killH H bs) where
  os := rfl
  tape := rfl
  output := rfl
  size := Nat.le_refl _
  keep _ _ _ := rfl
  shape _ _ _ h := h
  okf _ h := .inl h
  okb g h := by
    rcases h with h | ⟨b, _, hl, hb⟩
    · exact .inl h
    · exact .inr (.inl ⟨b, hl, hb⟩)
  mu g h := .inl (mut_kill h)

theorem HeapOk.freeze (h : HeapOk W ok ρ H) (bs : List Nat) : HeapOk W (okF ok ρ H bs) ρ (killH H bs) where
  blk b := by
    rw [hget_killH]
    split
    · trivial
    · exact (h.blk b).mono (Later.refl W ok) (fun _ h => .inl h) (fun _ _ _ => rfl)
  inj b b' g hl hl' := by
    rw [hget_killH] at hl hl'
    split at hl <;> split at hl' <;> try (simp [Blk.live] at hl hl'; done)
    exact h.inj b b' g hl hl'
  apart b g hl hg hok := by
    rw [hget_killH] at hl
    split at hl
    · simp [Blk.live] at hl
    · rename_i hnb
      rcases hok with hok | ⟨b', hb', hl', hg'⟩
      · exact h.apart b g hl hg hok
      · exact hnb ((h.inj b b' g hl hl' hg hg') ▸ hb')
  lt g hok := by
    rcases hok with hok | ⟨b', hb', hl', hg'⟩
    · exact h.lt g hok
    · obtain ⟨c, t, hh⟩ := h.here hl' hg'
      exact (Array.getElem?_eq_some_iff.1 hh).1

theorem cell_block {g o : Nat} {cur : Array Value} {t : TypeId} {fr : Nat × Nat} (h : W.heap[g]? = some (.cells cur t fr)) : W.cell? ⟨g, o, none⟩ = cur[o]? := by
  simp [World.cell?, h]

theorem At_block {g o : Nat} {cur : Array Value} {t : TypeId} {ds : List Value} (h : W.heap[g]? = some (.cells cur t (0, 0))) (hp : Pre cur ds) : At W ⟨g, o, none⟩ (ds.drop o) := by
  intro j u hu
  rw [List.getElem?_drop] at hu
  have : (⟨g, o, none⟩ : Addr).add j = ⟨g, o + j, none⟩ := by
    unfold Addr.add
    split
    · rename_i hj; subst hj; rfl
    · rfl
  rw [this, cell_block h]
  exact hp _ _ hu

/-- A slice of the call's own, as it may be looked at, wherever its block may be looked at. -/
theorem X_view (h : HeapOk W ok ρ H) {okv : Nat → Prop} (ho : ∀ g, ok g → okv g) {x : AV} (hx : (∃ b sz, x = .vec b sz) ∨ (∃ b sz off len cap, x = .ref b sz off len cap)) (hok : ∀ b g, b ∈ refOf x → (hget H b).live = true → ρ b = some g → okv g) {R' : Nat → Option Loc} {cs : List Value} (hr : X W ok (locs ρ H) x cs) : X W okv R' (view H x) cs := by
  rcases hx with ⟨b, sz, rfl⟩ | ⟨b, sz, off, len, cap, rfl⟩
  · simp only [X] at hr
    obtain ⟨loc, hloc, hr⟩ := hr
    obtain ⟨hl, hg, hn⟩ := locs_some hloc
    have hb := h.blk b
    simp only [view]
    cases hH : hget H b with
    | dead => simp [hH, Blk.live] at hl
    | I ty k l =>
      simp only [hH, BlkOk] at hb
      rw [hH] at hn
      simp only [Blk.len] at hn
      simp only [X]
      rcases hr with ⟨h0, hn0, rfl⟩ | ⟨g, c, T, m, h1, rfl, h3, h4, h5⟩
      · rw [← hg, h0] at hb
        simp only at hb
        subst hb
        exact ⟨none, 0, rfl, Nat.le_refl _, .inl rfl⟩
      · rw [← hg, h1] at hb
        obtain ⟨cur, hh, hp⟩ := hb
        refine ⟨some ⟨g, 0, none⟩, c, by rw [hn], by omega, .inr ⟨_, rfl, hok b g (by simp [refOf]) hl (by rw [← hg, h1]), ?_⟩⟩
        simpa using At_block (o := 0) hh hp
    | A ty e l =>
      simp only [hH, BlkOk] at hb
      rw [hH] at hn
      simp only [Blk.len] at hn
      simp only [X]
      obtain ⟨he, hb⟩ := hb
      rcases hr with ⟨h0, hn0, rfl⟩ | ⟨g, c, T, m, h1, rfl, h3, h4, h5⟩
      · rw [← hg, h0] at hb
        simp only at hb
        subst hb
        exact ⟨none, 0, rfl, Nat.le_refl _, he, .inl rfl⟩
      · rw [← hg, h1] at hb
        obtain ⟨cur, ds, hh, hp, hC⟩ := hb
        refine ⟨some ⟨g, 0, none⟩, c, by rw [hn], by omega, he, .inr ⟨_, ds, rfl, hok b g (by simp [refOf]) hl (by rw [← hg, h1]), ?_, C_length _ _ _ hC, C_mono (Later.refl W ok) ho (fun _ _ h => h) _ _ _ hC⟩⟩
        simpa using At_block (o := 0) hh hp
  · simp only [X] at hr
    simp only [view]
    rcases hr with ⟨hl0, hc0, rfl⟩ | ⟨loc, g, c, o, T, m, hloc, h1, rfl, h3, h4, h5, h6, h7, h8⟩
    · subst hl0
      cases hH : hget H b with
      | dead => simp [X]
      | I ty k l => cases hs : Nat.beq sz 1 <;> simp [hs, X]
      | A ty e l =>
        cases hs : Nat.beq sz e.sz
        · simp [hs, X]
        · obtain ⟨he, _⟩ : BlkOk W ok (ρ b) (.A ty e l) := hH ▸ h.blk b
          simp [hs, X]
    · obtain ⟨hl, hg, hn⟩ := locs_some hloc
      have hb := h.blk b
      cases hH : hget H b with
      | dead => simp [hH, Blk.live] at hl
      | I ty k l =>
        cases hs : Nat.beq sz 1
        · simp [hs, X]
        · have hsz : sz = 1 := Nat.eq_of_beq_eq_true hs
          simp only [hH, BlkOk] at hb
          rw [hH] at hn
          simp only [Blk.len] at hn
          rw [← hg, h1] at hb
          obtain ⟨cur, hh, hp⟩ := hb
          have hlen : ((l.drop off).take len).length = len := by rw [List.length_take, List.length_drop]; omega
          simp only [hs, cond_true, X]
          refine ⟨some ⟨g, o, none⟩, c, by rw [hlen], by omega, ?_⟩
          rcases Nat.eq_zero_or_pos c with hc | hc
          · left
            apply List.eq_nil_of_length_eq_zero
            omega
          · right
            refine ⟨_, rfl, hok b g (by simp [refOf]) hl (by rw [← hg, h1]), ?_⟩
            have ho' := h5 hc
            rw [hsz, Nat.mul_one] at ho'
            subst ho'
            intro j u hu
            refine At_block (o := o) hh hp j u ?_
            rw [List.map_take, List.map_drop] at hu
            rw [List.getElem?_take] at hu
            split at hu
            · exact hu
            · simp at hu
      | A ty e l =>
        cases hs : Nat.beq sz e.sz
        · simp [hs, X]
        · have hsz : sz = e.sz := Nat.eq_of_beq_eq_true hs
          simp only [hH, BlkOk] at hb
          rw [hH] at hn
          simp only [Blk.len] at hn
          rw [← hg, h1] at hb
          obtain ⟨he, cur, ds, hh, hp, hC⟩ := hb
          have hlen : ((l.drop off).take len).length = len := by rw [List.length_take, List.length_drop]; omega
          simp only [hs, cond_true, X]
          refine ⟨some ⟨g, o, none⟩, c, by rw [hlen], by omega, fun x hx => he x (List.mem_of_mem_drop (List.mem_of_mem_take hx)), ?_⟩
          rcases Nat.eq_zero_or_pos c with hc | hc
          · left
            apply List.eq_nil_of_length_eq_zero
            omega
          · right
            have ho' := h5 hc
            have hCs := C_sub off len hC
            refine ⟨_, (ds.drop (off * e.sz)).take (len * e.sz), rfl, hok b g (by simp [refOf]) hl (by rw [← hg, h1]), ?_, ?_, C_mono (Later.refl W ok) ho (fun _ _ h => h) _ _ _ hCs⟩
            · rw [ho', hsz]
              intro j u hu
              refine At_block (o := off * e.sz) hh hp j u ?_
              rw [List.getElem?_take] at hu
              split at hu
              · exact hu
              · simp at hu
            · rw [C_length _ _ _ hCs]

/-- Freezing: who led to a frozen block holds what it holds. -/
theorem KnowsOf.kill {bs : List Nat} : ∀ b loc, hasN bs b = false → locs ρ H b = some loc → locs ρ (killH H bs) b = some loc := by
  intro b loc hb h
  unfold locs at *
  rw [hget_killH, if_neg]
  · exact h
  · intro hm
    rw [hasN_iff.2 hm] at hb
    simp at hb

mutual
theorem X_frz (h : HeapOk W ok ρ H) (bs : List Nat) : ∀ (x : AV) (cs : List Value), X W ok (locs ρ H) x cs → X W (okF ok ρ H bs) (locs ρ (killH H bs)) (frz H bs x) cs
  | .dead, cs, hx => by simp only [frz, X]
  | .int k n, cs, hx => by simpa only [frz, X] using hx
  | .bool b, cs, hx => by simpa only [frz, X] using hx
  | .str s, cs, hx => by simpa only [frz, X] using hx
  | .nilS, cs, hx => by simpa only [frz, X] using hx
  | .nilI, cs, hx => by simpa only [frz, X] using hx
  | .nilP, cs, hx => by simpa only [frz, X] using hx
  | .nilF, cs, hx => by simpa only [frz, X] using hx
  | .fn f, cs, hx => by simpa only [frz, X] using hx
  | .ints k l, cs, hx => by simp only [frz]; exact X_mono2 (Later.refl W ok) (fun _ h => .inl h) _ _ (fun b loc hb => by simp [mentions] at hb) hx
  | .list e l, cs, hx => by simp only [frz]; exact X_mono2 (Later.refl W ok) (fun _ h => .inl h) _ _ (fun b loc hb => by simp [mentions] at hb) hx
  | .elem x, cs, hx => by simp only [frz]; exact X_mono2 (Later.refl W ok) (fun _ h => .inl h) _ _ (fun b loc hb => by simp [mentions] at hb) hx
  | .agg l, cs, hx => by simp only [frz, X] at hx ⊢; exact C_frz h bs l 1 cs hx
  | .tup l, cs, hx => by simp only [X] at hx
  | .iface t x, cs, hx => by
    simp only [frz, X] at hx ⊢
    obtain ⟨y, e, hy⟩ := hx
    refine ⟨y, e, ?_⟩
    rw [isAgg_frz]
    exact lift_mono (fun cs hc => X_frz h bs x cs hc) hy
  | .vec b sz, cs, hx => by
    simp only [frz]
    cases hb : hasN bs b
    · exact X_mono2 (Later.refl W ok) (fun _ h => .inl h) (.vec b sz) cs (fun b' loc hb' hl => KnowsOf.kill b' loc (by have : b' = b := Nat.eq_of_beq_eq_true (by simpa [mentions] using hb'); rw [this]; exact hb) hl) hx
    · exact X_view h (fun _ h => .inl h) (.inl ⟨b, sz, rfl⟩) (fun b' g hm hl hg => .inr ⟨b', hasN_iff.1 ((show b' = b from by simpa [refOf] using hm) ▸ hb), hl, hg⟩) hx
  | .ref b sz off len cap, cs, hx => by
    simp only [frz]
    cases hb : hasN bs b
    · exact X_mono2 (Later.refl W ok) (fun _ h => .inl h) (.ref b sz off len cap) cs (fun b' loc hb' hl => KnowsOf.kill b' loc (by have : b' = b := Nat.eq_of_beq_eq_true (by simpa [mentions] using hb'); rw [this]; exact hb) hl) hx
    · exact X_view h (fun _ h => .inl h) (.inr ⟨b, sz, off, len, cap, rfl⟩) (fun b' g hm hl hg => .inr ⟨b', hasN_iff.1 ((show b' = b from by simpa [refOf] using hm) ▸ hb), hl, hg⟩) hx
  | .ptr b sz i o, cs, hx => by
    simp only [frz]
    cases hb : hasN bs b
    · exact X_mono2 (Later.refl W ok) (fun _ h => .inl h) (.ptr b sz i o) cs (fun b' loc hb' hl => KnowsOf.kill b' loc (by have : b' = b := Nat.eq_of_beq_eq_true (by simpa [mentions] using hb'); rw [this]; exact hb) hl) hx
    · simp [X]
theorem C_frz (h : HeapOk W ok ρ H) (bs : List Nat) : ∀ (l : List AV) (m : Nat) (cs : List Value), C W ok (locs ρ H) m l cs → C W (okF ok ρ H bs) (locs ρ (killH H bs)) m (frzL H bs l) cs
  | [], m, cs, hc => by simpa only [frzL, C] using hc
  | x :: xs, m, cs, hc => by
    simp only [frzL, C] at hc ⊢
    obtain ⟨c, d, e, hm, hx, hd⟩ := hc
    exact ⟨c, d, e, hm, X_frz h bs x c hx, C_frz h bs xs m d hd⟩
end

theorem All2_frz (h : HeapOk W ok ρ H) (bs : List Nat) : ∀ {l : List AV} {us : List Value}, All2 (Rel0 W ok (locs ρ H)) l us → All2 (Rel0 W (okF ok ρ H bs) (locs ρ (killH H bs))) (frzL H bs l) us
  | [], _, ha => by simpa only [frzL, All2] using ha
  | x :: xs, _, ⟨u, us, e, hx, ha⟩ => by
    simp only [frzL]
    refine ⟨u, us, e, ?_, All2_frz h bs ha⟩
    unfold Rel0
    rw [isAgg_frz]
    exact lift_mono (fun cs hc => X_frz h bs x cs hc) hx

theorem Rel_frz (h : HeapOk W ok ρ H) (bs : List Nat) {x : AV} {v : Value} (hr : Rel W ok (locs ρ H) x v) : Rel W (okF ok ρ H bs) (locs ρ (killH H bs)) (frz H bs x) v := by
  by_cases ht : ∃ l, x = .tup l
  · obtain ⟨l, rfl⟩ := ht
    rw [rel_tup] at hr
    obtain ⟨cs, e, ha⟩ := hr
    simp only [frz]
    rw [rel_tup]
    exact ⟨cs, e, All2_frz h bs ha⟩
  · by_cases hd : x = .dead
    · subst hd
      simp only [frz]
      exact rel_dead
    · have h0 : Rel0 W ok (locs ρ H) x v := by
        unfold Rel at hr
        split at hr
        · exact absurd ⟨_, rfl⟩ ht
        · exact absurd rfl hd
        · exact hr
      apply Rel_of_Rel0
      unfold Rel0
      rw [isAgg_frz]
      exact lift_mono (fun cs hc => X_frz h bs x cs hc) h0

/-- Where nothing is frozen nothing turns. -/
theorem trOf_app (h : HeapOk W ok ρ H) (bs : List Nat) {x : AV} {v : Value} (hr : Rel W ok (locs ρ H) x v) : Rel W (okF ok ρ H bs) (locs ρ (killH H bs)) ((trOf H bs).app x) v := by
  cases bs with
  | nil => exact Rel_mono2 (Later.refl W ok) (fun _ h => .inl h) (fun b loc _ h => h) hr
  | cons b bs => exact Rel_frz h (b :: bs) hr
end
end Go.RX
