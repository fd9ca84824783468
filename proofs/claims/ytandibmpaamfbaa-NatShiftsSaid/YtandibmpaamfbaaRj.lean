/- Heaps: blocks that are made, written, frozen, grown. -/
import Derived.Test.YtandibmpaamfbaaRh
import Derived.Test.YtandibmpaamfbaaRi
set_option linter.unusedVariables false
set_option linter.unusedSimpArgs false
namespace Go.RX

/-! ### lists of blocks -/
theorem hget_lt {H : List Blk} {b : Nat} (h : (hget H b).live = true) : b < H.length := by
  induction H generalizing b with
  | nil => simp [hget, Blk.live] at h
  | cons x xs ih =>
    cases b with
    | zero => simp
    | succ b => simpa using ih (by simpa [hget] using h)
theorem hget_ge {H : List Blk} {b : Nat} (h : H.length ≤ b) : hget H b = .dead := by
  induction H generalizing b with
  | nil => rfl
  | cons x xs ih =>
    cases b with
    | zero => simp at h
    | succ b => simpa [hget] using ih (by simpa using h)
theorem hget_append {H l : List Blk} {b : Nat} (h : b < H.length) : hget (H ++ l) b = hget H b := by
  induction H generalizing b with
  | nil => simp at h
  | cons x xs ih =>
    cases b with
    | zero => rfl
    | succ b => simpa [hget] using ih (by simpa using h)
theorem hget_append_ge {H l : List Blk} {b : Nat} : hget (H ++ l) (H.length + b) = hget l b := by
  induction H with
  | nil => simp
  | cons x xs ih => simpa [hget, Nat.succ_add] using ih
theorem hget_new {H : List Blk} {x : Blk} : hget (H ++ [x]) H.length = x := by
  have := hget_append_ge (H := H) (l := [x]) (b := 0)
  simpa [hget] using this
theorem hget_push {H : List Blk} {x : Blk} (b : Nat) : hget (H ++ [x]) b = if b = H.length then x else hget H b := by
  split
  · rename_i h; subst h; exact hget_new
  · rename_i h
    rcases Nat.lt_or_ge b H.length with h1 | h1
    · exact hget_append h1
    · rw [hget_ge h1, hget_ge (by simp; omega)]
theorem hset_length (H : List Blk) (b : Nat) (x : Blk) : (hset H b x).length = H.length := by
  induction H generalizing b with
  | nil => rfl
  | cons y ys ih => cases b <;> simp [hset, ih]
theorem hget_hset {H : List Blk} {b : Nat} {x : Blk} (b' : Nat) : hget (hset H b x) b' = if b' = b ∧ b < H.length then x else hget H b' := by
  induction H generalizing b b' with
  | nil => simp [hset, hget]
  | cons y ys ih =>
    cases b <;> cases b' <;> simp [hset, hget, ih]
theorem hget_hset_live {H : List Blk} {b : Nat} {x : Blk} (hl : (hget H b).live = true) (b' : Nat) : hget (hset H b x) b' = if b' = b then x else hget H b' := by
  rw [hget_hset]
  have := hget_lt hl
  simp [this]

def upd (ρ : Nat → Option Nat) (b : Nat) (g : Option Nat) : Nat → Option Nat := fun b' => if b' = b then g else ρ b'

/-! ### transitions -/
def mutg (ρ : Nat → Option Nat) (H : List Blk) (g : Nat) : Prop := ∃ b, (hget H b).live = true ∧ ρ b = some g

structure Trans (W W' : World) (ok ok' : Nat → Prop) (ρ : Nat → Option Nat) (H : List Blk) (ρ' : Nat → Option Nat) (H' : List Blk) : Prop where
  os : W'.os = W.os
  tape : W'.tape = W.tape
  output : W'.output = W.output
  size : W.heap.size ≤ W'.heap.size
  keep : ∀ g, g < W.heap.size → ¬ mutg ρ H g → W'.heap[g]? = W.heap[g]?
  shape : ∀ g T m, W.shape? g = some (T, m) → W'.shape? g = some (T, m)
  okf : ∀ g, ok g → ok' g
  okb : ∀ g, ok' g → ok g ∨ mutg ρ H g ∨ W.heap.size ≤ g
  mu : ∀ g, mutg ρ' H' g → mutg ρ H g ∨ W.heap.size ≤ g

section
variable {W W' : World} {ok ok' : Nat → Prop} {ρ ρ' : Nat → Option Nat} {H H' : List Blk}

theorem Trans.refl : Trans W W ok ok ρ H ρ H := ⟨rfl, rfl, rfl, Nat.le_refl _, fun _ _ _ => rfl, fun _ _ _ h => h, fun _ h => h, fun _ h => .inl h, fun _ h => .inl h⟩

theorem HeapOk.notmut (h : HeapOk W ok ρ H) {g : Nat} (hg : ok g) : ¬ mutg ρ H g := fun ⟨b, hl, hb⟩ => h.apart b g hl hb hg

theorem Trans.later (t : Trans W W' ok ok' ρ H ρ' H') (h : HeapOk W ok ρ H) : Later W W' ok :=
  ⟨fun g hg => t.keep g (h.lt g hg) (h.notmut hg), t.shape⟩

theorem Trans.trans {W1 W2 W3 : World} {ok1 ok2 ok3 : Nat → Prop} {ρ1 ρ2 ρ3 : Nat → Option Nat} {H1 H2 H3 : List Blk} (t : Trans W1 W2 ok1 ok2 ρ1 H1 ρ2 H2) (s : Trans W2 W3 ok2 ok3 ρ2 H2 ρ3 H3) : Trans W1 W3 ok1 ok3 ρ1 H1 ρ3 H3 where
  os := s.os.trans t.os
  tape := s.tape.trans t.tape
  output := s.output.trans t.output
  size := Nat.le_trans t.size s.size
  keep g hg hm := by
    have h2 : ¬ mutg ρ2 H2 g := fun h => by
      rcases t.mu g h with h | h
      · exact hm h
      · omega
    exact (s.keep g (Nat.lt_of_lt_of_le hg t.size) h2).trans (t.keep g hg hm)
  shape g T m h := s.shape g T m (t.shape g T m h)
  okf g h := s.okf g (t.okf g h)
  okb g h := by
    rcases s.okb g h with h | h | h
    · exact t.okb g h
    · rcases t.mu g h with h | h
      · exact .inr (.inl h)
      · exact .inr (.inr h)
    · exact .inr (.inr (Nat.le_trans t.size h))
  mu g h := by
    rcases s.mu g h with h | h
    · exact t.mu g h
    · exact .inr (Nat.le_trans t.size h)

theorem BlkOk.mono {g : Option Nat} {x : Blk} (h : BlkOk W ok g x) (hl : Later W W' ok) (ho : ∀ g, ok g → ok' g) (hg : x.live = true → ∀ g', g = some g' → W'.heap[g']? = W.heap[g']?) : BlkOk W' ok' g x := by
  cases x with
  | dead => trivial
  | I ty k l =>
    cases g with
    | none => exact h
    | some g =>
      obtain ⟨cur, h1, h2⟩ := h
      exact ⟨cur, (hg rfl g rfl).trans h1, h2⟩
  | A ty e l =>
    obtain ⟨he, h⟩ := h
    refine ⟨he, ?_⟩
    cases g with
    | none => exact h
    | some g =>
      obtain ⟨cur, ds, h1, h2, h3⟩ := h
      exact ⟨cur, ds, (hg rfl g rfl).trans h1, h2, C_mono hl ho (fun _ _ h => h) _ _ _ h3⟩

/-! #### a new block -/
theorem heap_of_alloc (W : World) (o : Obj) : (W.alloc o).heap = W.heap.push o := rfl
theorem shape_alloc (W : World) (o : Obj) {g : Nat} {T m : Nat} (h : W.shape? g = some (T, m)) : (W.alloc o).shape? g = some (T, m) := by
  have hlt : g < W.heap.size := by
    rcases Nat.lt_or_ge g W.heap.size with h1 | h1
    · exact h1
    · simp [World.shape?, Array.getElem?_eq_none h1] at h
  unfold World.shape? at h ⊢
  rwa [show (W.alloc o).heap[g]? = W.heap[g]? from by rw [heap_of_alloc, Array.getElem?_push_lt hlt, Array.getElem?_eq_getElem hlt]]

theorem alloc_keep (W : World) (o : Obj) {g : Nat} (h : g < W.heap.size) : (W.alloc o).heap[g]? = W.heap[g]? := by
  rw [heap_of_alloc, Array.getElem?_push_lt h, Array.getElem?_eq_getElem h]
theorem alloc_new (W : World) (o : Obj) : (W.alloc o).heap[W.heap.size]? = some o := by rw [heap_of_alloc]; simp
theorem alloc_size (W : World) (o : Obj) : (W.alloc o).heap.size = W.heap.size + 1 := by rw [heap_of_alloc]; simp

theorem locs_push {x : Blk} {g : Option Nat} : Knows (locs ρ H) (locs (upd ρ H.length g) (H ++ [x])) := by
  intro b loc h
  obtain ⟨hl, hg, hn⟩ := locs_some h
  have hb := hget_lt hl
  have hne : b ≠ H.length := by omega
  unfold locs
  rw [hget_append hb, hl, cond_true, upd, if_neg hne]
  cases loc
  simp_all

theorem mut_push {x : Blk} {g0 : Nat} {g : Nat} (h : mutg (upd ρ H.length (some g0)) (H ++ [x]) g) : mutg ρ H g ∨ g = g0 := by
  obtain ⟨b, hl, hb⟩ := h
  rw [hget_push] at hl
  unfold upd at hb
  split at hl
  · rename_i he
    rw [if_pos he] at hb
    right
    simpa using hb.symm
  · rename_i he
    rw [if_neg he] at hb
    exact .inl ⟨b, hl, hb⟩

theorem trans_alloc (o : Obj) {x : Blk} : Trans W (W.alloc o) ok ok ρ H (upd ρ H.length (some W.heap.size)) (H ++ [x]) where
  os := rfl
  tape := rfl
  output := rfl
  size := by rw [alloc_size]; omega
  keep g hg _ := alloc_keep W o hg
  shape g T m h := shape_alloc W o h
  okf g h := h
  okb g h := .inl h
  mu g h := by
    rcases mut_push h with h | h
    · exact .inl h
    · exact .inr (by omega)

theorem HeapOk.push (h : HeapOk W ok ρ H) {cur : Array Value} {ty : TypeId} {x : Blk} (hx : BlkOk (W.alloc (.cells cur ty)) ok (some W.heap.size) x) :
    HeapOk (W.alloc (.cells cur ty)) ok (upd ρ H.length (some W.heap.size)) (H ++ [x]) where
  blk b := by
    rw [hget_push]
    unfold upd
    split
    · exact hx
    · rename_i hne
      exact (h.blk b).mono ((trans_alloc (o := .cells cur ty) (x := x) (ok := ok) (ρ := ρ) (H := H)).later h) (fun _ h => h) (fun hl g hg => by
        obtain ⟨c, t, hh⟩ := h.here hl hg
        exact alloc_keep W _ (Array.getElem?_eq_some_iff.1 hh).1)
  inj b b' g hl hl' hg hg' := by
    rw [hget_push] at hl hl'
    unfold upd at hg hg'
    split at hg <;> split at hg'
    · omega
    · rename_i h1 h2
      rw [if_neg h2] at hl'
      obtain ⟨c, t, hh⟩ := h.here hl' hg'
      have := (Array.getElem?_eq_some_iff.1 hh).1
      simp at hg
      omega
    · rename_i h1 h2
      rw [if_neg h1] at hl
      obtain ⟨c, t, hh⟩ := h.here hl hg
      have := (Array.getElem?_eq_some_iff.1 hh).1
      simp at hg'
      omega
    · rename_i h1 h2
      rw [if_neg h1] at hl
      rw [if_neg h2] at hl'
      exact h.inj b b' g hl hl' hg hg'
  apart b g hl hg hok := by
    rw [hget_push] at hl
    unfold upd at hg
    split at hg
    · have := h.lt g hok
      simp at hg
      omega
    · rename_i h1
      rw [if_neg h1] at hl
      exact h.apart b g hl hg hok
  lt g hg := by have := h.lt g hg; rw [alloc_size]; omega

/-- An empty block that is not there yet. -/
theorem HeapOk.pushNil (h : HeapOk W ok ρ H) {x : Blk} (hx : BlkOk W ok none x) : HeapOk W ok (upd ρ H.length none) (H ++ [x]) where
  blk b := by
    rw [hget_push]
    unfold upd
    split
    · exact hx
    · exact h.blk b
  inj b b' g hl hl' hg hg' := by
    rw [hget_push] at hl hl'
    unfold upd at hg hg'
    split at hg <;> split at hg' <;> try (simp at hg hg'; done)
    rename_i h1 h2
    rw [if_neg h1] at hl
    rw [if_neg h2] at hl'
    exact h.inj b b' g hl hl' hg hg'
  apart b g hl hg hok := by
    rw [hget_push] at hl
    unfold upd at hg
    split at hg
    · simp at hg
    · rename_i h1
      rw [if_neg h1] at hl
      exact h.apart b g hl hg hok
  lt := h.lt

theorem trans_nil {x : Blk} : Trans W W ok ok ρ H (upd ρ H.length none) (H ++ [x]) where
  os := rfl
  tape := rfl
  output := rfl
  size := Nat.le_refl _
  keep _ _ _ := rfl
  shape _ _ _ h := h
  okf _ h := h
  okb _ h := .inl h
  mu g h := by
    obtain ⟨b, hl, hb⟩ := h
    rw [hget_push] at hl
    unfold upd at hb
    split at hl
    · rename_i he
      rw [if_pos he] at hb
      simp at hb
    · rename_i he
      rw [if_neg he] at hb
      exact .inl ⟨b, hl, hb⟩

/-! #### a block is written -/
theorem heap_setRow (W : World) (g : Nat) (cs : Array Value) (k : Nat) (h : k ≠ g) : (W.setRow g cs).heap[k]? = W.heap[k]? := by
  simp [World.setRow, Array.getElem?_modify, Ne.symm h]
theorem heap_setRow_same {W : World} {g : Nat} {cur cs : Array Value} {t : TypeId} {fr : Nat × Nat} (h : W.heap[g]? = some (.cells cur t fr)) : (W.setRow g cs).heap[g]? = some (.cells cs t fr) := by
  simp [World.setRow, Array.getElem?_modify, h]
theorem size_setRow (W : World) (g : Nat) (cs : Array Value) : (W.setRow g cs).heap.size = W.heap.size := by simp [World.setRow]

theorem locs_set {b : Nat} {x : Blk} (hl : (hget H b).live = true) (hx : x.live = true) (hn : x.len = (hget H b).len) : locs ρ (hset H b x) = locs ρ H := by
  funext b'
  unfold locs
  rw [hget_hset_live hl]
  split
  · rename_i h
    subst h
    rw [hl, hx, hn]
  · rfl

theorem mut_set {b : Nat} {x : Blk} (hl : (hget H b).live = true) (g : Nat) (h : mutg ρ (hset H b x) g) : mutg ρ H g := by
  obtain ⟨b', hl', hb'⟩ := h
  rw [hget_hset_live hl] at hl'
  split at hl'
  · rename_i he
    subst he
    exact ⟨b', hl, hb'⟩
  · exact ⟨b', hl', hb'⟩

theorem trans_setRow {b g : Nat} {x : Blk} {cur cs : Array Value} {t : TypeId} (hl : (hget H b).live = true) (hg : ρ b = some g) (hh : W.heap[g]? = some (.cells cur t (0, 0))) (hs : cs.size = cur.size) :
    Trans W (W.setRow g cs) ok ok ρ H ρ (hset H b x) where
  os := rfl
  tape := rfl
  output := rfl
  size := by rw [size_setRow]; omega
  keep g' _ hm := heap_setRow W g cs g' (fun e => hm ⟨b, hl, e ▸ hg⟩)
  shape g' T m h := by
    by_cases e : g' = g
    · subst e
      unfold World.shape? at h ⊢
      rw [heap_setRow_same hh]
      rw [hh] at h
      simpa [hs] using h
    · unfold World.shape? at h ⊢
      rwa [heap_setRow W g cs g' e]
  okf _ h := h
  okb _ h := .inl h
  mu g h := .inl (mut_set hl g h)

theorem HeapOk.setRow (h : HeapOk W ok ρ H) {b g : Nat} {x : Blk} {cur cs : Array Value} {t : TypeId} (hl : (hget H b).live = true) (hg : ρ b = some g) (hh : W.heap[g]? = some (.cells cur t (0, 0))) (hs : cs.size = cur.size)
    (hx : BlkOk (W.setRow g cs) ok (some g) x) : HeapOk (W.setRow g cs) ok ρ (hset H b x) where
  blk b' := by
    rw [hget_hset_live hl]
    split
    · rename_i e; subst e; rw [hg]; exact hx
    · rename_i hne
      refine (h.blk b').mono ((trans_setRow (x := x) (ok := ok) hl hg hh hs).later h) (fun _ h => h) (fun hl' g' hg' => heap_setRow W g cs g' ?_)
      rintro rfl
      exact hne (h.inj b' b g' hl' hl hg' hg)
  inj b1 b2 g' h1 h2 e1 e2 := by
    rw [hget_hset_live hl] at h1 h2
    refine h.inj b1 b2 g' ?_ ?_ e1 e2
    · split at h1
      · rename_i e; rw [e]; exact hl
      · exact h1
    · split at h2
      · rename_i e; rw [e]; exact hl
      · exact h2
  apart b1 g' h1 e1 hok := by
    rw [hget_hset_live hl] at h1
    refine h.apart b1 g' ?_ e1 hok
    split at h1
    · rename_i e; rw [e]; exact hl
    · exact h1
  lt g' hg' := by rw [size_setRow]; exact h.lt g' hg'
end
end Go.RX
