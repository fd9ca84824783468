/- The operations that make no memory: what the machine does is what is told. -/
import Derived.Test.YtandibmpaamfbaaRb
import Derived.Laws.Entries
import Derived.Laws.Cells
import Derived.ChangeKeysEq
set_option linter.unusedVariables false
set_option linter.unusedSimpArgs false
namespace Go.RX

/-! ### types -/
def TK.desc (tk : TK) (P : Program) (t : TypeId) : Prop :=
  match tk with
  | .int k => P.underlying t = some (.int k)
  | .bool => P.underlying t = some .bool
  | .str => P.underlying t = some .string
  | .slice e => P.underlying t = some (.slice e)
  | .arr n e => P.underlying t = some (.array n e)
  | .st fs => ∃ fields, P.underlying t = some (.struct fields) ∧ fields.toList.map (fun f => (f.type, f.offset)) = fs
  | .ptr => ∃ e, P.underlying t = some (.pointer e)
  | .iface => ∃ ms, P.underlying t = some (.interface ms)
  | .fn => ∃ a b c, P.underlying t = some (.func a b c)
  | .other => ∃ d, P.underlying t = some d ∧ ¬ (∃ f, d = .struct f) ∧ ¬ (∃ n e, d = .array n e)

structure TyOk (P : Program) (t : TypeId) (d : TyD) (z : Value) : Prop where
  desc : d.tk.desc P t
  info : (P.info? t).map (fun i => (i.size, i.bytes, i.zero)) = some (d.sz, d.bytes, some z)
  zero : ∀ W ok R, Rel0 W ok R d.zero z
  size : d.ety.sz = d.sz
  wt : wt d.ety (fitE d.ety d.zero) = true
  agg : d.tk.isAgg = d.zero.isAgg
  pos : 0 < d.sz

def TabOk (P : Program) (tab : Tab) : Prop := ∀ t d, tab t = some d → ∃ z, TyOk P t d z

section
variable {P : Program} {t : TypeId} {d : TyD} {z : Value} (w : World)
def aggDesc : TypeDesc → Bool
  | .struct _ | .array _ _ => true
  | _ => false
theorem isAgg_of {dsc : TypeDesc} (hd : P.underlying t = some dsc) : (Go.isAgg t).run P w = .ok (aggDesc dsc) w := by
  simp only [Go.isAgg, Sem.run_bind, run_underlying hd, Result.andThen_ok]
  cases dsc <;> rfl
theorem TyOk.isAgg (h : TyOk P t d z) : (Go.isAgg t).run P w = .ok d.tk.isAgg w := by
  have hd := h.desc
  cases ht : d.tk with
  | int k => rw [ht] at hd; exact isAgg_of w hd
  | bool => rw [ht] at hd; exact isAgg_of w hd
  | str => rw [ht] at hd; exact isAgg_of w hd
  | slice e => rw [ht] at hd; exact isAgg_of w hd
  | arr n e => rw [ht] at hd; exact isAgg_of w hd
  | st fs => rw [ht] at hd; obtain ⟨fields, hd, _⟩ := hd; exact isAgg_of w hd
  | ptr => rw [ht] at hd; obtain ⟨e, hd⟩ := hd; exact isAgg_of w hd
  | iface => rw [ht] at hd; obtain ⟨e, hd⟩ := hd; exact isAgg_of w hd
  | fn => rw [ht] at hd; obtain ⟨a, b, c, hd⟩ := hd; exact isAgg_of w hd
  | other => rw [ht] at hd; obtain ⟨dsc, hd, h1, h2⟩ := hd; rw [isAgg_of w hd]; cases dsc <;> first | rfl | exact absurd ⟨_, rfl⟩ h1 | exact absurd ⟨_, _, rfl⟩ h2
theorem TyOk.sizeOf (h : TyOk P t d z) : (Go.sizeOf t).run P w = .ok d.sz w := by
  have hi := h.info
  cases hx : P.info? t with
  | none => simp [hx] at hi
  | some i =>
    simp only [hx, Option.map_some, Option.some.injEq, Prod.mk.injEq] at hi
    simp [Go.sizeOf, run_typeInfo _ hx, hi.1]
theorem TyOk.info' (h : TyOk P t d z) : ∃ i, P.info? t = some i ∧ i.size = d.sz ∧ i.bytes = d.bytes ∧ i.zero = some z := by
  have hi := h.info
  cases hx : P.info? t with
  | none => simp [hx] at hi
  | some i =>
    simp only [hx, Option.map_some, Option.some.injEq, Prod.mk.injEq] at hi
    exact ⟨i, rfl, hi.1, hi.2.1, hi.2.2⟩
theorem TyOk.zeroValue (h : TyOk P t d z) : (Go.zeroValue t).run P w = .ok z w := by
  obtain ⟨i, hx, _, _, hz⟩ := h.info'
  simp [Go.zeroValue, run_typeInfo _ hx, hz]
theorem TyOk.typeInfo (h : TyOk P t d z) : ∃ i, (Go.typeInfo t).run P w = .ok i w ∧ i.size = d.sz ∧ i.bytes = d.bytes ∧ i.zero = some z := by
  obtain ⟨i, hx, h1, h2, h3⟩ := h.info'
  exact ⟨i, by simp [run_typeInfo _ hx], h1, h2, h3⟩
end

/-! ### lists of cells -/
section
variable {W : World} {ok : Nat → Prop} {R : Nat → Option Loc}
theorem C_length : ∀ (m : Nat) (l : List AV) (cs : List Value), C W ok R m l cs → cs.length = l.length * m
  | m, [], cs, h => by simp only [C] at h; simp [h]
  | m, x :: xs, cs, h => by
    simp only [C] at h
    obtain ⟨c, d, e, hm, _, hd⟩ := h
    rw [e, List.length_append, C_length m xs d hd, hm]
    simp [Nat.add_mul, Nat.add_comm]
theorem C_at : ∀ (m : Nat) (l : List AV) (cs : List Value), C W ok R m l cs → ∀ i, i < l.length → X W ok R (aget l i) ((cs.drop (i * m)).take m)
  | m, [], cs, h, i, hi => by simp at hi
  | m, x :: xs, cs, h, i, hi => by
    simp only [C] at h
    obtain ⟨c, d, e, hm, hx, hd⟩ := h
    subst e
    cases i with
    | zero => simpa [aget, ← hm] using hx
    | succ i =>
      have := C_at m xs d hd i (by simpa using hi)
      simp only [aget]
      rwa [Nat.succ_mul, Nat.add_comm, ← List.drop_drop, List.drop_append_of_le_length (by omega), List.drop_of_length_le (l := c) (by omega), List.nil_append]
theorem C_one {l : List AV} {cs : List Value} (h : C W ok R 1 l cs) (i : Nat) (hi : i < l.length) : ∃ u, cs[i]? = some u ∧ X W ok R (aget l i) [u] := by
  have hl := C_length 1 l cs h
  have hx := C_at 1 l cs h i hi
  have hi' : i < cs.length := by omega
  refine ⟨cs[i], List.getElem?_eq_getElem hi', ?_⟩
  have : (cs.drop (i * 1)).take 1 = [cs[i]] := by
    rw [Nat.mul_one, List.drop_eq_getElem_cons hi']
    rfl
  rwa [this] at hx
theorem C_append {m : Nat} : ∀ {l l' : List AV} {cs cs' : List Value}, C W ok R m l cs → C W ok R m l' cs' → C W ok R m (l ++ l') (cs ++ cs')
  | [], l', cs, cs', h, h' => by simp only [C] at h; subst h; simpa using h'
  | x :: xs, l', cs, cs', h, h' => by
    simp only [C] at h
    obtain ⟨c, d, e, hm, hx, hd⟩ := h
    simp only [List.cons_append, C]
    exact ⟨c, d ++ cs', by rw [e, List.append_assoc], hm, hx, C_append hd h'⟩
theorem C_take {m : Nat} : ∀ {l : List AV} {cs : List Value} (n : Nat), C W ok R m l cs → C W ok R m (l.take n) (cs.take (n * m))
  | [], cs, n, h => by simp only [C] at h; subst h; simp [C]
  | x :: xs, cs, 0, h => by simp [C]
  | x :: xs, cs, n + 1, h => by
    simp only [C] at h
    obtain ⟨c, d, e, hm, hx, hd⟩ := h
    subst e
    simp only [List.take_succ_cons, C]
    refine ⟨c, d.take (n * m), ?_, hm, hx, C_take n hd⟩
    rw [Nat.succ_mul, Nat.add_comm, List.take_append, List.take_of_length_le (by omega)]
    congr 2
    omega
theorem C_drop {m : Nat} : ∀ {l : List AV} {cs : List Value} (n : Nat), C W ok R m l cs → C W ok R m (l.drop n) (cs.drop (n * m))
  | [], cs, n, h => by simp only [C] at h; subst h; simp [C]
  | x :: xs, cs, 0, h => by simpa using h
  | x :: xs, cs, n + 1, h => by
    simp only [C] at h
    obtain ⟨c, d, e, hm, hx, hd⟩ := h
    subst e
    rw [List.drop_succ_cons, Nat.succ_mul, Nat.add_comm, ← List.drop_drop, List.drop_append_of_le_length (by omega), List.drop_of_length_le (l := c) (by omega), List.nil_append]
    exact C_drop n hd
theorem C_sub {m : Nat} {l : List AV} {cs : List Value} (off n : Nat) (h : C W ok R m l cs) : C W ok R m ((l.drop off).take n) ((cs.drop (off * m)).take (n * m)) := C_take n (C_drop off h)
theorem Rel0_of_X {x : AV} {u : Value} (ha : x.isAgg = false) (h : X W ok R x [u]) : Rel0 W ok R x u := by
  simpa [Rel0, lift, ha] using h
theorem Rel_of_Rel0 {x : AV} {u : Value} (h : Rel0 W ok R x u) : Rel W ok R x u := by
  unfold Rel
  split
  · simp [Rel0, lift, AV.isAgg, X] at h
  · trivial
  · exact h
theorem X_tup {l : List AV} {cs : List Value} : ¬ X W ok R (.tup l) cs := by simp [X]
/-- One cell of a struct or an array: no struct itself. -/
theorem not_agg_of_X1 : ∀ {x : AV} {u : Value}, X W ok R x [u] → x.isAgg = true → ∃ y, x = .agg [y] := by
  intro x u h ha
  cases x <;> simp [AV.isAgg] at ha
  rename_i l
  simp only [X] at h
  have := C_length 1 l _ h
  match l, this with
  | [y], _ => exact ⟨y, rfl⟩
end

/-! ### heaps -/
def locs (ρ : Nat → Option Nat) (H : List Blk) : Nat → Option Loc := fun b =>
  cond (hget H b).live (some ⟨ρ b, (hget H b).len⟩) none

def Pre (cur : Array Value) (ds : List Value) : Prop := ∀ (j : Nat) (u : Value), ds[j]? = some u → cur[j]? = some u

def BlkOk (W : World) (ok : Nat → Prop) (g : Option Nat) : Blk → Prop
  | .dead => True
  | .I ty k l => match g with
    | none => l = []
    | some g => ∃ cur, W.heap[g]? = some (.cells cur ty (0, 0)) ∧ Pre cur (l.map (.int k))
  | .A ty e l => (∀ x, x ∈ l → wt e x = true) ∧ match g with
    | none => l = []
    | some g => ∃ cur ds, W.heap[g]? = some (.cells cur ty (0, 0)) ∧ Pre cur ds ∧ C W ok noLoc e.sz l ds

structure HeapOk (W : World) (ok : Nat → Prop) (ρ : Nat → Option Nat) (H : List Blk) : Prop where
  blk : ∀ b, BlkOk W ok (ρ b) (hget H b)
  inj : ∀ b b' g, (hget H b).live = true → (hget H b').live = true → ρ b = some g → ρ b' = some g → b = b'
  apart : ∀ b g, (hget H b).live = true → ρ b = some g → ¬ ok g
  lt : ∀ g, ok g → g < W.heap.size

theorem HeapOk.here {W : World} {ok : Nat → Prop} {ρ : Nat → Option Nat} {H : List Blk} (h : HeapOk W ok ρ H) {b g : Nat} (hl : (hget H b).live = true) (hg : ρ b = some g) : ∃ cur ty, W.heap[g]? = some (.cells cur ty (0, 0)) := by
  have := h.blk b
  cases hb : hget H b with
  | dead => simp [hb, Blk.live] at hl
  | I ty k l =>
    simp only [hb, BlkOk, hg] at this
    obtain ⟨cur, h1, _⟩ := this
    exact ⟨cur, ty, h1⟩
  | A ty e l =>
    simp only [hb, BlkOk, hg] at this
    obtain ⟨_, cur, ds, h1, _⟩ := this
    exact ⟨cur, ty, h1⟩
end Go.RX
