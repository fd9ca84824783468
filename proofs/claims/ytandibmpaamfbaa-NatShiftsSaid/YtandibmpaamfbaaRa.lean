/- Values as they are told (AV), what it means that a value of the machine is so told (X, Rel), and that this stays while the world grows. Nothing here names a program. -/
import Derived.Orders
import Derived.Laws.CopyRow
import Derived.Laws.AppendOwn
import Derived.Laws.World
import Derived.Below
import Derived.Tactics
set_option linter.unusedVariables false
set_option linter.unusedSimpArgs false
namespace Go.RX

/-- The kinds of elements. -/
inductive ETy : Type
  | int (k : IntKind)
  | bool
  | str
  | sl (e : ETy)
  | st (fs : List ETy)
  | opq (n : Nat)

def ETy.sz : ETy → Nat
  | .st fs => fs.length
  | .opq n => n
  | _ => 1

/-- A value as it is told: numbers and lists instead of memory; 'ref', 'vec', 'ptr' lead into a block of the call's own (told by its number). -/
inductive AV : Type
  | dead
  | int (k : IntKind) (n : Int)
  | bool (b : Bool)
  | str (s : ByteArray)
  | nilS
  | nilI
  | nilP
  | nilF
  | fn (f : FuncId)
  | ints (k : IntKind) (l : List Int)
  | list (e : ETy) (l : List AV)
  | elem (x : AV)
  | agg (l : List AV)
  | tup (l : List AV)
  | iface (t : TypeId) (x : AV)
  | vec (b sz : Nat)
  | ref (b sz off len : Nat) (cap : Option Nat)
  | ptr (b sz i o : Nat)

instance : Inhabited AV := ⟨.dead⟩

namespace AV
def toInt : AV → Int
  | .int _ n => n
  | _ => 0
def toBool : AV → Bool
  | .bool b => b
  | _ => false
def toStr : AV → ByteArray
  | .str s => s
  | _ => ⟨#[]⟩
def asInts : AV → List Int
  | .ints _ l => l
  | _ => []
def asList : AV → List AV
  | .list _ l => l
  | _ => []
def flds : AV → List AV
  | .agg l => l
  | _ => []
def isAgg : AV → Bool
  | .agg _ => true
  | _ => false
end AV

def aget : List AV → Nat → AV
  | [], _ => .dead
  | x :: _, 0 => x
  | _ :: xs, n + 1 => aget xs n

mutual
/-- A value of a kind, laid anew by its parts. -/
def eta : ETy → AV → AV
  | .int k, x => .int k x.toInt
  | .bool, x => .bool x.toBool
  | .str, x => .str x.toStr
  | .sl e, x => match e with
    | .int k => .ints k x.asInts
    | e => .list e x.asList
  | .st fs, x => .agg (etaL fs 0 x.flds)
  | .opq _, x => x
def etaL : List ETy → Nat → List AV → List AV
  | [], _, _ => []
  | e :: es, i, xs => eta e (aget xs i) :: etaL es (i + 1) xs
end

def ksame : IntKind → IntKind → Bool
  | .i8, .i8 | .i16, .i16 | .i32, .i32 | .i64, .i64 | .u8, .u8 | .u16, .u16 | .u32, .u32 | .u64, .u64 => true
  | _, _ => false
theorem ksame_eq {k k' : IntKind} (h : ksame k k' = true) : k = k' := by cases k <;> cases k' <;> first | rfl | cases h

mutual
def ETy.same : ETy → ETy → Bool
  | .int k, .int k' => ksame k k'
  | .bool, .bool => true
  | .str, .str => true
  | .sl e, .sl e' => ETy.same e e'
  | .st fs, .st gs => ETy.sameL fs gs
  | .opq n, .opq m => Nat.beq n m
  | _, _ => false
def ETy.sameL : List ETy → List ETy → Bool
  | [], [] => true
  | a :: as, b :: bs => ETy.same a b && ETy.sameL as bs
  | _, _ => false
end

mutual
theorem ETy.same_eq : ∀ (a b : ETy), ETy.same a b = true → a = b
  | .int k, .int k', h => congrArg ETy.int (ksame_eq (by simpa only [ETy.same] using h))
  | .bool, .bool, _ => rfl
  | .str, .str, _ => rfl
  | .sl e, .sl e', h => by rw [ETy.same_eq e e' (by simpa [ETy.same] using h)]
  | .st fs, .st gs, h => by rw [ETy.sameL_eq fs gs (by simpa [ETy.same] using h)]
  | .opq n, .opq m, h => congrArg ETy.opq (Nat.eq_of_beq_eq_true (by simpa only [ETy.same] using h))
  | .int _, .bool, h | .int _, .str, h | .int _, .sl _, h | .int _, .st _, h | .int _, .opq _, h => by simp [ETy.same] at h
  | .bool, .int _, h | .bool, .str, h | .bool, .sl _, h | .bool, .st _, h | .bool, .opq _, h => by simp [ETy.same] at h
  | .str, .int _, h | .str, .bool, h | .str, .sl _, h | .str, .st _, h | .str, .opq _, h => by simp [ETy.same] at h
  | .sl _, .int _, h | .sl _, .bool, h | .sl _, .str, h | .sl _, .st _, h | .sl _, .opq _, h => by simp [ETy.same] at h
  | .st _, .int _, h | .st _, .bool, h | .st _, .str, h | .st _, .sl _, h | .st _, .opq _, h => by simp [ETy.same] at h
  | .opq _, .int _, h | .opq _, .bool, h | .opq _, .str, h | .opq _, .sl _, h | .opq _, .st _, h => by simp [ETy.same] at h
theorem ETy.sameL_eq : ∀ (a b : List ETy), ETy.sameL a b = true → a = b
  | [], [], _ => rfl
  | a :: as, b :: bs, h => by
    simp only [ETy.sameL, Bool.and_eq_true] at h
    rw [ETy.same_eq a b h.1, ETy.sameL_eq as bs h.2]
  | [], _ :: _, h => by simp [ETy.sameL] at h
  | _ :: _, [], h => by simp [ETy.sameL] at h
end

mutual
/-- Is it of this kind, and leads into no block of the call's own? -/
def wt : ETy → AV → Bool
  | .int k, .int k' _ => ksame k k'
  | .bool, .bool _ => true
  | .str, .str _ => true
  | .sl (.int k), .ints k' _ => ksame k k'
  | .sl e, .list e' _ => match e with
    | .int _ => false
    | e => ETy.same e e'
  | .st fs, .agg l => wtL fs l
  | .opq 1, .fn _ => true
  | .opq 1, .nilI => true
  | .opq 1, .iface _ (.int _ _) => true
  | _, _ => false
def wtL : List ETy → List AV → Bool
  | [], [] => true
  | e :: es, x :: xs => match e with
    | .st _ => false
    | e => wt e x && wtL es xs
  | _, _ => false
end

theorem aget_eq : ∀ (l : List AV) (i : Nat) (h : i < l.length), aget l i = l[i]
  | x :: xs, 0, _ => rfl
  | x :: xs, i + 1, h => by simpa [aget] using aget_eq xs i (by simpa using h)
theorem aget_mem (l : List AV) (i : Nat) (h : i < l.length) : aget l i ∈ l := by rw [aget_eq l i h]; exact List.getElem_mem h

/-! ### values of a kind -/
mutual
theorem eta_wt : ∀ (e : ETy) (x : AV), wt e x = true → eta e x = x
  | .int k, x, h => by
    cases x <;> simp [wt] at h
    simp [eta, AV.toInt, ksame_eq h]
  | .bool, x, h => by
    cases x <;> simp [wt] at h
    simp [eta, AV.toBool]
  | .str, x, h => by
    cases x <;> simp [wt] at h
    simp [eta, AV.toStr]
  | .sl e, x, h => by
    cases e with
    | int k =>
      cases x <;> simp [wt] at h
      simp [eta, AV.asInts, ksame_eq h]
    | _ =>
      cases x <;> simp [wt] at h
      simp only [eta, AV.asList]
      rw [ETy.same_eq _ _ h]
  | .st fs, x, h => by
    cases x <;> simp [wt] at h
    rename_i l
    simp only [eta, AV.flds]
    have := etaL_wt fs [] l h
    simp only [List.length_nil, List.nil_append] at this
    rw [this]
  | .opq n, x, h => by simp [eta]
theorem etaL_wt : ∀ (fs : List ETy) (pre xs : List AV), wtL fs xs = true → etaL fs pre.length (pre ++ xs) = xs
  | [], pre, xs, h => by
    cases xs with
    | nil => rfl
    | cons x xs => simp [wtL] at h
  | e :: es, pre, xs, h => by
    cases xs with
    | nil => simp [wtL] at h
    | cons x xs =>
      have hw : wt e x = true ∧ wtL es xs = true := by
        cases e <;> simp [wtL] at h <;> exact h
      simp only [etaL]
      have h1 : aget (pre ++ x :: xs) pre.length = x := by
        rw [aget_eq _ _ (by simp)]
        simp
      rw [h1, eta_wt e x hw.1]
      congr 1
      have := etaL_wt es (pre ++ [x]) xs hw.2
      simpa using this
end

/-- What is known of a block by its number: its place, how many elements it holds. -/
structure Loc where
  g : Option Nat
  n : Nat

/-- The cells behind an address. -/
def At (W : World) (ad : Addr) (cs : List Value) : Prop := ∀ j u, cs[j]? = some u → W.cell? (ad.add j) = some u

def noLoc : Nat → Option Loc := fun _ => none

/-- A value's cells, given what is told of them, lifted to the value. -/
def lift (agg : Bool) (p : List Value → Prop) (v : Value) : Prop :=
  if agg then ∃ cs, v = .agg cs ∧ p cs.toList else p [v]

section
variable (W : World) (ok : Nat → Prop)
mutual
def X : (Nat → Option Loc) → AV → List Value → Prop
  | _, .dead, _ => True
  | _, .int k n, cs => cs = [.int k n]
  | _, .bool b, cs => cs = [.bool b]
  | _, .str s, cs => cs = [.string s]
  | _, .nilS, cs => cs = [.slice none 0 0]
  | _, .nilI, cs => cs = [.nilIface]
  | _, .nilP, cs => cs = [.pointer none]
  | _, .nilF, cs => cs = [.nilFunc]
  | _, .fn f, cs => cs = [.func (.func f) #[] #[]]
  | _, .ints k l, cs => ∃ A c, cs = [.slice A l.length c] ∧ l.length ≤ c ∧ (l = [] ∨ ∃ ad, A = some ad ∧ ok ad.block ∧ At W ad (l.map (.int k)))
  | _, .list e l, cs => ∃ A c, cs = [.slice A l.length c] ∧ l.length ≤ c ∧ (∀ x, x ∈ l → wt e x = true) ∧ (l = [] ∨ ∃ ad ds, A = some ad ∧ ok ad.block ∧ At W ad ds ∧ ds.length = l.length * e.sz ∧ C noLoc e.sz l ds)
  | _, .elem x, cs => ∃ ad ds, cs = [.pointer (some ad)] ∧ ok ad.block ∧ At W ad ds ∧ X noLoc x ds
  | R, .agg l, cs => C R 1 l cs
  | _, .tup _, _ => False
  | R, .iface t x, cs => ∃ y, cs = [.iface t y] ∧ lift x.isAgg (X R x) y
  | R, .vec b sz, cs => ∃ loc, R b = some loc ∧ ((loc.g = none ∧ loc.n = 0 ∧ cs = [.slice none 0 0]) ∨
      ∃ g c T m, loc.g = some g ∧ cs = [.slice (some ⟨g, 0, none⟩) loc.n c] ∧ loc.n ≤ c ∧ W.shape? g = some (T, m) ∧ c * sz ≤ m)
  | R, .ref b sz off len cap, cs => (len = 0 ∧ (∀ c', cap = some c' → c' = 0) ∧ cs = [.slice none 0 0]) ∨
      ∃ loc g c o T m, R b = some loc ∧ loc.g = some g ∧ cs = [.slice (some ⟨g, o, none⟩) len c] ∧ len ≤ c ∧ (∀ c', cap = some c' → c = c') ∧ (0 < c → o = off * sz) ∧ W.shape? g = some (T, m) ∧ (off + c) * sz ≤ m ∧ off + len ≤ loc.n
  | R, .ptr b sz i o, cs => ∃ loc g, R b = some loc ∧ loc.g = some g ∧ cs = [.pointer (some ⟨g, i * sz + o, none⟩)] ∧ i < loc.n
def C : (Nat → Option Loc) → Nat → List AV → List Value → Prop
  | _, _, [], cs => cs = []
  | R, m, x :: xs, cs => ∃ c d, cs = c ++ d ∧ c.length = m ∧ X R x c ∧ C R m xs d
end

def Rel0 (R : Nat → Option Loc) (x : AV) (v : Value) : Prop := lift x.isAgg (X W ok R x) v

def All2 {α β : Type} (p : α → β → Prop) : List α → List β → Prop
  | [], bs => bs = []
  | a :: as, bs => ∃ b bs', bs = b :: bs' ∧ p a b ∧ All2 p as bs'

/-- The machine's value is the one that is told. -/
def Rel (R : Nat → Option Loc) : AV → Value → Prop
  | .tup l, v => ∃ cs, v = .tuple cs ∧ All2 (Rel0 W ok R) l cs.toList
  | .dead, _ => True
  | x, v => Rel0 W ok R x v
end

/-- A later world: what may be looked at by 'ok' stands as it stood; blocks keep their sizes. -/
structure Later (W W' : World) (ok : Nat → Prop) : Prop where
  keep : ∀ g, ok g → W'.heap[g]? = W.heap[g]?
  shape : ∀ g T m, W.shape? g = some (T, m) → W'.shape? g = some (T, m)

theorem Later.refl (W : World) (ok : Nat → Prop) : Later W W ok := ⟨fun _ _ => rfl, fun _ _ _ h => h⟩

theorem At.later {W W' : World} {ok : Nat → Prop} {ad : Addr} {cs : List Value} (h : At W ad cs) (hb : ok ad.block) (hl : Later W W' ok) : At W' ad cs := by
  intro j u hu
  have hbl : (ad.add j).block = ad.block := by unfold Addr.add; split <;> rfl
  rw [← h j u hu]
  simp [World.cell?, hbl, hl.keep _ hb]

theorem lift_mono {b : Bool} {p q : List Value → Prop} (h : ∀ cs, p cs → q cs) {v : Value} (hp : lift b p v) : lift b q v := by
  unfold lift at *
  split at hp
  · rename_i hb
    rw [if_pos hb]
    obtain ⟨cs, e, hc⟩ := hp
    exact ⟨cs, e, h _ hc⟩
  · rename_i hb
    rw [if_neg hb]
    exact h _ hp

/-- What is told of blocks stays told: R' knows all that R knows. -/
def Knows (R R' : Nat → Option Loc) : Prop := ∀ b loc, R b = some loc → R' b = some loc

section
variable {W W' : World} {ok ok' : Nat → Prop}
mutual
theorem X_mono (hl : Later W W' ok) (ho : ∀ g, ok g → ok' g) : ∀ {R R' : Nat → Option Loc} (hk : Knows R R') (x : AV) (cs : List Value), X W ok R x cs → X W' ok' R' x cs
  | R, R', hk, .dead, cs, h => trivial
  | R, R', hk, .int k n, cs, h => by simpa only [X] using h
  | R, R', hk, .bool b, cs, h => by simpa only [X] using h
  | R, R', hk, .str s, cs, h => by simpa only [X] using h
  | R, R', hk, .nilS, cs, h => by simpa only [X] using h
  | R, R', hk, .nilI, cs, h => by simpa only [X] using h
  | R, R', hk, .nilP, cs, h => by simpa only [X] using h
  | R, R', hk, .nilF, cs, h => by simpa only [X] using h
  | R, R', hk, .fn f, cs, h => by simpa only [X] using h
  | R, R', hk, .ints k l, cs, h => by
    simp only [X] at h ⊢
    obtain ⟨A, c, e, hc, h⟩ := h
    refine ⟨A, c, e, hc, ?_⟩
    rcases h with h | ⟨ad, ea, hok, hat⟩
    · exact .inl h
    · exact .inr ⟨ad, ea, ho _ hok, hat.later hok hl⟩
  | R, R', hk, .list e l, cs, h => by
    simp only [X] at h ⊢
    obtain ⟨A, c, ec, hc, he, h⟩ := h
    refine ⟨A, c, ec, hc, he, ?_⟩
    rcases h with h | ⟨ad, ds, ea, hok, hat, hlen, hC⟩
    · exact .inl h
    · exact .inr ⟨ad, ds, ea, ho _ hok, hat.later hok hl, hlen, C_mono hl ho (fun _ _ h => h) _ l ds hC⟩
  | R, R', hk, .elem x, cs, h => by
    simp only [X] at h ⊢
    obtain ⟨ad, ds, e, hok, hat, hx⟩ := h
    exact ⟨ad, ds, e, ho _ hok, hat.later hok hl, X_mono hl ho (fun _ _ h => h) x ds hx⟩
  | R, R', hk, .agg l, cs, h => by
    simp only [X] at h ⊢
    exact C_mono hl ho hk _ l cs h
  | R, R', hk, .tup l, cs, h => by simp only [X] at h
  | R, R', hk, .iface t x, cs, h => by
    simp only [X] at h ⊢
    obtain ⟨y, e, h⟩ := h
    exact ⟨y, e, lift_mono (fun cs hc => X_mono hl ho hk x cs hc) h⟩
  | R, R', hk, .vec b sz, cs, h => by
    simp only [X] at h ⊢
    obtain ⟨loc, e, h⟩ := h
    refine ⟨loc, hk _ _ e, ?_⟩
    rcases h with h | ⟨g, c, T, m, h1, h2, h3, h4, h5⟩
    · exact .inl h
    · exact .inr ⟨g, c, T, m, h1, h2, h3, hl.shape _ _ _ h4, h5⟩
  | R, R', hk, .ref b sz off len cap, cs, h => by
    simp only [X] at h ⊢
    rcases h with h | ⟨loc, g, c, o, T, m, h1, h2, h3, h4, h5, h6, h7, h8, h9⟩
    · exact .inl h
    · exact .inr ⟨loc, g, c, o, T, m, hk _ _ h1, h2, h3, h4, h5, h6, hl.shape _ _ _ h7, h8, h9⟩
  | R, R', hk, .ptr b sz i o, cs, h => by
    simp only [X] at h ⊢
    obtain ⟨loc, g, h1, h2, h3, h4⟩ := h
    exact ⟨loc, g, hk _ _ h1, h2, h3, h4⟩
theorem C_mono (hl : Later W W' ok) (ho : ∀ g, ok g → ok' g) : ∀ {R R' : Nat → Option Loc} (hk : Knows R R') (m : Nat) (xs : List AV) (cs : List Value), C W ok R m xs cs → C W' ok' R' m xs cs
  | R, R', hk, m, [], cs, h => by simpa only [C] using h
  | R, R', hk, m, x :: xs, cs, h => by
    simp only [C] at h ⊢
    obtain ⟨c, d, e, hm, hx, hd⟩ := h
    exact ⟨c, d, e, hm, X_mono hl ho hk x c hx, C_mono hl ho hk m xs d hd⟩
end

theorem Rel0_mono (hl : Later W W' ok) (ho : ∀ g, ok g → ok' g) {R R' : Nat → Option Loc} (hk : Knows R R') {x : AV} {v : Value} (h : Rel0 W ok R x v) : Rel0 W' ok' R' x v :=
  lift_mono (fun cs hc => X_mono hl ho hk x cs hc) h

theorem All2.imp {α β : Type} {p q : α → β → Prop} (h : ∀ a b, p a b → q a b) : ∀ {as : List α} {bs : List β}, All2 p as bs → All2 q as bs
  | [], _, e => e
  | _ :: _, _, ⟨b, bs', e, hp, hr⟩ => ⟨b, bs', e, h _ _ hp, All2.imp h hr⟩

theorem Rel_mono (hl : Later W W' ok) (ho : ∀ g, ok g → ok' g) {R R' : Nat → Option Loc} (hk : Knows R R') {x : AV} {v : Value} (h : Rel W ok R x v) : Rel W' ok' R' x v := by
  unfold Rel at *
  split at h
  · obtain ⟨cs, e, h⟩ := h
    exact ⟨cs, e, h.imp fun _ _ => Rel0_mono hl ho hk⟩
  · trivial
  · exact Rel0_mono hl ho hk h
end

/-! ### forms of Rel -/
section
variable {W : World} {ok : Nat → Prop} {R : Nat → Option Loc} {v : Value}
theorem rel_int {k : IntKind} {n : Int} : Rel W ok R (.int k n) v ↔ v = .int k n := by simp [Rel, Rel0, lift, AV.isAgg, X]
theorem rel_bool {b : Bool} : Rel W ok R (.bool b) v ↔ v = .bool b := by simp [Rel, Rel0, lift, AV.isAgg, X]
theorem rel_str {s : ByteArray} : Rel W ok R (.str s) v ↔ v = .string s := by simp [Rel, Rel0, lift, AV.isAgg, X]
theorem rel_nilS : Rel W ok R .nilS v ↔ v = .slice none 0 0 := by simp [Rel, Rel0, lift, AV.isAgg, X]
theorem rel_nilI : Rel W ok R .nilI v ↔ v = .nilIface := by simp [Rel, Rel0, lift, AV.isAgg, X]
theorem rel_nilP : Rel W ok R .nilP v ↔ v = .pointer none := by simp [Rel, Rel0, lift, AV.isAgg, X]
theorem rel_nilF : Rel W ok R .nilF v ↔ v = .nilFunc := by simp [Rel, Rel0, lift, AV.isAgg, X]
theorem rel_fn {f : FuncId} : Rel W ok R (.fn f) v ↔ v = .func (.func f) #[] #[] := by simp [Rel, Rel0, lift, AV.isAgg, X]
theorem rel_ints {k : IntKind} {l : List Int} : Rel W ok R (.ints k l) v ↔ ∃ A c, v = .slice A l.length c ∧ l.length ≤ c ∧ (l = [] ∨ ∃ ad, A = some ad ∧ ok ad.block ∧ At W ad (l.map (.int k))) := by
  simp [Rel, Rel0, lift, AV.isAgg, X]
theorem rel_list {e : ETy} {l : List AV} : Rel W ok R (.list e l) v ↔ ∃ A c, v = .slice A l.length c ∧ l.length ≤ c ∧ (∀ x, x ∈ l → wt e x = true) ∧ (l = [] ∨ ∃ ad ds, A = some ad ∧ ok ad.block ∧ At W ad ds ∧ ds.length = l.length * e.sz ∧ C W ok noLoc e.sz l ds) := by
  simp [Rel, Rel0, lift, AV.isAgg, X]
theorem rel_elem {x : AV} : Rel W ok R (.elem x) v ↔ ∃ ad ds, v = .pointer (some ad) ∧ ok ad.block ∧ At W ad ds ∧ X W ok noLoc x ds := by
  simp [Rel, Rel0, lift, AV.isAgg, X]
theorem rel_agg {l : List AV} : Rel W ok R (.agg l) v ↔ ∃ cs, v = .agg cs ∧ C W ok R 1 l cs.toList := by
  simp [Rel, Rel0, lift, AV.isAgg, X]
theorem rel_tup {l : List AV} : Rel W ok R (.tup l) v ↔ ∃ cs, v = .tuple cs ∧ All2 (Rel0 W ok R) l cs.toList := by
  simp [Rel]
theorem rel_iface {t : TypeId} {x : AV} : Rel W ok R (.iface t x) v ↔ ∃ y, v = .iface t y ∧ Rel0 W ok R x y := by
  simp [Rel, Rel0, lift, AV.isAgg, X]
theorem rel_vec {b sz : Nat} : Rel W ok R (.vec b sz) v ↔ ∃ loc, R b = some loc ∧ ((loc.g = none ∧ loc.n = 0 ∧ v = .slice none 0 0) ∨
      ∃ g c T m, loc.g = some g ∧ v = .slice (some ⟨g, 0, none⟩) loc.n c ∧ loc.n ≤ c ∧ W.shape? g = some (T, m) ∧ c * sz ≤ m) := by
  simp [Rel, Rel0, lift, AV.isAgg, X]
theorem rel_ref {b sz off len : Nat} {cap : Option Nat} : Rel W ok R (.ref b sz off len cap) v ↔ (len = 0 ∧ (∀ c', cap = some c' → c' = 0) ∧ v = .slice none 0 0) ∨
      ∃ loc g c o T m, R b = some loc ∧ loc.g = some g ∧ v = .slice (some ⟨g, o, none⟩) len c ∧ len ≤ c ∧ (∀ c', cap = some c' → c = c') ∧ (0 < c → o = off * sz) ∧ W.shape? g = some (T, m) ∧ (off + c) * sz ≤ m ∧ off + len ≤ loc.n := by
  simp [Rel, Rel0, lift, AV.isAgg, X]
theorem rel_ptr {b sz i o : Nat} : Rel W ok R (.ptr b sz i o) v ↔ ∃ loc g, R b = some loc ∧ loc.g = some g ∧ v = .pointer (some ⟨g, i * sz + o, none⟩) ∧ i < loc.n := by
  simp [Rel, Rel0, lift, AV.isAgg, X]
theorem rel_dead : Rel W ok R .dead v := by simp [Rel]
end
end Go.RX
