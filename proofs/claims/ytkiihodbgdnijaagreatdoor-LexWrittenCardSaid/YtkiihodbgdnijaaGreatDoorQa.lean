/- The evaluator and its soundness. -/
import Derived.Test.YtkiihodbgdnijaaGreatDoorQz
import Derived.Orders
import Derived.Laws.CopyRow
import Derived.Laws.AppendOwn
import Derived.Laws.World
import Derived.Below
import Derived.Tactics
import Derived.Laws.Entries
import Derived.Laws.Cells
import Derived.ChangeKeysEq
import Derived.Laws.StructEq
import Derived.Laws.Small
import Derived.Laws.BytesString

/- Values as they are told (AV), what it means that a value of the machine is so told (X, Rel), and that this stays while the world grows. Nothing here names a program. -/
set_option linter.unusedVariables false
set_option linter.unusedSimpArgs false
namespace Go.RX

/-- The kinds of elements. -/
inductive ETy : Type
  | int (k : IntKind)
  | bool
  | str
  | sl (e : ETy)
  | st (fs : List ETy)
  | opq (n : Nat)
  | err

def ETy.sz : ETy → Nat
  | .st fs => fs.length
  | .opq n => n
  | _ => 1

/-- A value as it is told: numbers and lists instead of memory; 'ref', 'vec', 'ptr' lead into a block of the call's own (told by its number). -/
inductive AV : Type
  | dead
  | int (k : IntKind) (n : Int)
  | bool (b : Bool)
  | str (s : ByteArray)
  | nilS
  | nilI
  | err (e : Option (Int × Int))
  | nilP
  | nilF
  | fn (f : FuncId)
  | ints (k : IntKind) (l : List Int)
  | list (e : ETy) (l : List AV)
  | elem (x : AV)
  | agg (l : List AV)
  | tup (l : List AV)
  | iface (t : TypeId) (x : AV)
  | clo (f : FuncId) (n : Nat) (l : List AV)
  | vec (b sz : Nat)
  | ref (b sz off len : Nat) (cap : Option Nat)
  | ptr (b sz i o : Nat)

instance : Inhabited AV := ⟨.dead⟩

namespace AV
def toInt : AV → Int
  | .int _ n => n
  | _ => 0
def toBool : AV → Bool
  | .bool b => b
  | _ => false
def toStr : AV → ByteArray
  | .str s => s
  | _ => ⟨#[]⟩
def toErr : AV → Option (Int × Int)
  | .err e => e
  | _ => none
def asInts : AV → List Int
  | .ints _ l => l
  | _ => []
def asList : AV → List AV
  | .list _ l => l
  | _ => []
def flds : AV → List AV
  | .agg l => l
  | _ => []
def isAgg : AV → Bool
  | .agg _ => true
  | _ => false
end AV

def aget : List AV → Nat → AV
  | [], _ => .dead
  | x :: _, 0 => x
  | _ :: xs, n + 1 => aget xs n

mutual
/-- A value of a kind, laid anew by its parts. -/
def eta : ETy → AV → AV
  | .int k, x => .int k x.toInt
  | .bool, x => .bool x.toBool
  | .str, x => .str x.toStr
  | .sl e, x => match e with
    | .int k => .ints k x.asInts
    | e => .list e x.asList
  | .st fs, x => .agg (etaL fs 0 x.flds)
  | .opq _, x => x
  | .err, x => .err x.toErr
def etaL : List ETy → Nat → List AV → List AV
  | [], _, _ => []
  | e :: es, i, xs => eta e (aget xs i) :: etaL es (i + 1) xs
end

def ksame : IntKind → IntKind → Bool
  | .i8, .i8 | .i16, .i16 | .i32, .i32 | .i64, .i64 | .u8, .u8 | .u16, .u16 | .u32, .u32 | .u64, .u64 => true
  | _, _ => false
theorem ksame_eq {k k' : IntKind} (h : ksame k k' = true) : k = k' := by cases k <;> cases k' <;> first | rfl | cases h

mutual
def ETy.same : ETy → ETy → Bool
  | .int k, .int k' => ksame k k'
  | .bool, .bool => true
  | .str, .str => true
  | .sl e, .sl e' => ETy.same e e'
  | .st fs, .st gs => ETy.sameL fs gs
  | .opq n, .opq m => Nat.beq n m
  | .err, .err => true
  | _, _ => false
def ETy.sameL : List ETy → List ETy → Bool
  | [], [] => true
  | a :: as, b :: bs => ETy.same a b && ETy.sameL as bs
  | _, _ => false
end

mutual
theorem ETy.same_eq : ∀ (a b : ETy), ETy.same a b = true → a = b
  | .int k, .int k', h => congrArg ETy.int (ksame_eq (by simpa only [ETy.same] using h))
  | .bool, .bool, _ => rfl
  | .str, .str, _ => rfl
  | .sl e, .sl e', h => by rw [ETy.same_eq e e' (by simpa [ETy.same] using h)]
  | .st fs, .st gs, h => by rw [ETy.sameL_eq fs gs (by simpa [ETy.same] using h)]
  | .err, .err, _ => rfl
  | .opq n, .opq m, h => congrArg ETy.opq (Nat.eq_of_beq_eq_true (by simpa only [ETy.same] using h))
  | .int _, .bool, h | .int _, .str, h | .int _, .sl _, h | .int _, .st _, h | .int _, .opq _, h => by simp [ETy.same] at h
  | .bool, .int _, h | .bool, .str, h | .bool, .sl _, h | .bool, .st _, h | .bool, .opq _, h => by simp [ETy.same] at h
  | .str, .int _, h | .str, .bool, h | .str, .sl _, h | .str, .st _, h | .str, .opq _, h => by simp [ETy.same] at h
  | .sl _, .int _, h | .sl _, .bool, h | .sl _, .str, h | .sl _, .st _, h | .sl _, .opq _, h => by simp [ETy.same] at h
  | .st _, .int _, h | .st _, .bool, h | .st _, .str, h | .st _, .sl _, h | .st _, .opq _, h => by simp [ETy.same] at h
  | .err, .int _, h | .err, .bool, h | .err, .str, h | .err, .sl _, h | .err, .st _, h | .err, .opq _, h => by simp [ETy.same] at h
  | .int _, .err, h | .bool, .err, h | .str, .err, h | .sl _, .err, h | .st _, .err, h | .opq _, .err, h => by simp [ETy.same] at h
  | .opq _, .int _, h | .opq _, .bool, h | .opq _, .str, h | .opq _, .sl _, h | .opq _, .st _, h => by simp [ETy.same] at h
theorem ETy.sameL_eq : ∀ (a b : List ETy), ETy.sameL a b = true → a = b
  | [], [], _ => rfl
  | a :: as, b :: bs, h => by
    simp only [ETy.sameL, Bool.and_eq_true] at h
    rw [ETy.same_eq a b h.1, ETy.sameL_eq as bs h.2]
  | [], _ :: _, h => by simp [ETy.sameL] at h
  | _ :: _, [], h => by simp [ETy.sameL] at h
end

/-- Values that are not looked into. -/
def wtO : Nat → AV → Bool
  | 1, .fn _ => true
  | 1, .nilF => true
  | 1, .nilP => true
  | 1, .nilI => true
  | 1, .iface _ (.int _ _) => true
  | 1, .iface _ (.elem _) => true
  | _, _ => false
mutual
/-- Is it of this kind, and leads into no block of the call's own? -/
def wt : ETy → AV → Bool
  | .int k, .int k' _ => ksame k k'
  | .bool, .bool _ => true
  | .str, .str _ => true
  | .sl (.int k), .ints k' _ => ksame k k'
  | .sl e, .list e' _ => match e with
    | .int _ => false
    | e => ETy.same e e'
  | .st fs, .agg l => wtL fs l
  | .opq n, x => wtO n x
  | .err, .err _ => true
  | _, _ => false
def wtL : List ETy → List AV → Bool
  | [], [] => true
  | e :: es, x :: xs => match e with
    | .st _ => false
    | e => wt e x && wtL es xs
  | _, _ => false
end

theorem aget_eq : ∀ (l : List AV) (i : Nat) (h : i < l.length), aget l i = l[i]
  | x :: xs, 0, _ => rfl
  | x :: xs, i + 1, h => by simpa [aget] using aget_eq xs i (by simpa using h)
theorem aget_mem (l : List AV) (i : Nat) (h : i < l.length) : aget l i ∈ l := by rw [aget_eq l i h]; exact List.getElem_mem h

/-! ### values of a kind -/
mutual
theorem eta_wt : ∀ (e : ETy) (x : AV), wt e x = true → eta e x = x
  | .int k, x, h => by
    cases x <;> simp [wt] at h
    simp [eta, AV.toInt, ksame_eq h]
  | .bool, x, h => by
    cases x <;> simp [wt] at h
    simp [eta, AV.toBool]
  | .str, x, h => by
    cases x <;> simp [wt] at h
    simp [eta, AV.toStr]
  | .sl e, x, h => by
    cases e with
    | int k =>
      cases x <;> simp [wt] at h
      simp [eta, AV.asInts, ksame_eq h]
    | _ =>
      cases x <;> simp [wt] at h
      simp only [eta, AV.asList]
      rw [ETy.same_eq _ _ h]
  | .st fs, x, h => by
    cases x <;> simp [wt] at h
    rename_i l
    simp only [eta, AV.flds]
    have := etaL_wt fs [] l h
    simp only [List.length_nil, List.nil_append] at this
    rw [this]
  | .opq n, x, h => by simp [eta]
  | .err, x, h => by
    cases x <;> simp [wt] at h
    simp [eta, AV.toErr]
theorem etaL_wt : ∀ (fs : List ETy) (pre xs : List AV), wtL fs xs = true → etaL fs pre.length (pre ++ xs) = xs
  | [], pre, xs, h => by
    cases xs with
    | nil => rfl
    | cons x xs => simp [wtL] at h
  | e :: es, pre, xs, h => by
    cases xs with
    | nil => simp [wtL] at h
    | cons x xs =>
      have hw : wt e x = true ∧ wtL es xs = true := by
        cases e <;> simp [wtL] at h <;> exact h
      simp only [etaL]
      have h1 : aget (pre ++ x :: xs) pre.length = x := by
        rw [aget_eq _ _ (by simp)]
        simp
      rw [h1, eta_wt e x hw.1]
      congr 1
      have := etaL_wt es (pre ++ [x]) xs hw.2
      simpa using this
end

/-- What is known of a block by its number: its place, how many elements it holds. -/
structure Loc where
  g : Option Nat
  n : Nat

/-- The cells behind an address. -/
def At (W : World) (ad : Addr) (cs : List Value) : Prop := ∀ j u, cs[j]? = some u → W.cell? (ad.add j) = some u

def noLoc : Nat → Option Loc := fun _ => none

/-- A value's cells, given what is told of them, lifted to the value. -/
def lift (agg : Bool) (p : List Value → Prop) (v : Value) : Prop :=
  if agg then ∃ cs, v = .agg cs ∧ p cs.toList else p [v]

section
variable (W : World) (ok : Nat → Prop)
mutual
def X : (Nat → Option Loc) → AV → List Value → Prop
  | _, .dead, _ => True
  | _, .int k n, cs => cs = [.int k n]
  | _, .bool b, cs => cs = [.bool b]
  | _, .str s, cs => cs = [.string s]
  | _, .nilS, cs => cs = [.slice none 0 0]
  | _, .nilI, cs => cs = [.nilIface]
  | _, .err none, cs => cs = [.nilIface]
  | _, .err (some (a, c)), cs => ∃ ad, cs = [.iface errT (.pointer (some ad))] ∧ ok ad.block ∧ At W ad [.int .i64 a, .iface errN (.int .i64 c)]
  | _, .nilP, cs => cs = [.pointer none]
  | _, .nilF, cs => cs = [.nilFunc]
  | _, .fn f, cs => cs = [.func (.func f) #[] #[]]
  | _, .ints k l, cs => ∃ A c, cs = [.slice A l.length c] ∧ l.length ≤ c ∧ (l = [] ∨ ∃ ad, A = some ad ∧ ok ad.block ∧ At W ad (l.map (.int k)))
  | _, .list e l, cs => ∃ A c, cs = [.slice A l.length c] ∧ l.length ≤ c ∧ (∀ x, x ∈ l → wt e x = true) ∧ (l = [] ∨ ∃ ad ds, A = some ad ∧ ok ad.block ∧ At W ad ds ∧ ds.length = l.length * e.sz ∧ C noLoc e.sz l ds)
  | _, .elem x, cs => ∃ ad ds, cs = [.pointer (some ad)] ∧ ok ad.block ∧ At W ad ds ∧ X noLoc x ds
  | R, .agg l, cs => C R 1 l cs
  | _, .tup _, _ => False
  | R, .iface t x, cs => ∃ y, cs = [.iface t y] ∧ lift x.isAgg (X R x) y
  | R, .clo f n l, cs => ∃ us : List Value, cs = [.func (.func f) (us.take n).toArray (us.drop n).toArray] ∧ C R 1 l us
  | R, .vec b sz, cs => ∃ loc, R b = some loc ∧ ((loc.g = none ∧ loc.n = 0 ∧ cs = [.slice none 0 0]) ∨
      ∃ g c T m, loc.g = some g ∧ cs = [.slice (some ⟨g, 0, none⟩) loc.n c] ∧ loc.n ≤ c ∧ W.shape? g = some (T, m) ∧ c * sz ≤ m)
  | R, .ref b sz off len cap, cs => (len = 0 ∧ (∀ c', cap = some c' → c' = 0) ∧ cs = [.slice none 0 0]) ∨
      ∃ loc g c o T m, R b = some loc ∧ loc.g = some g ∧ cs = [.slice (some ⟨g, o, none⟩) len c] ∧ len ≤ c ∧ (∀ c', cap = some c' → c = c') ∧ (0 < c ∨ off = 0 → o = off * sz) ∧ W.shape? g = some (T, m) ∧ (off + c) * sz ≤ m ∧ off + len ≤ loc.n
  | R, .ptr b sz i o, cs => ∃ loc g, R b = some loc ∧ loc.g = some g ∧ cs = [.pointer (some ⟨g, i * sz + o, none⟩)] ∧ i < loc.n
def C : (Nat → Option Loc) → Nat → List AV → List Value → Prop
  | _, _, [], cs => cs = []
  | R, m, x :: xs, cs => ∃ c d, cs = c ++ d ∧ c.length = m ∧ X R x c ∧ C R m xs d
end

def Rel0 (R : Nat → Option Loc) (x : AV) (v : Value) : Prop := lift x.isAgg (X W ok R x) v

def All2 {α β : Type} (p : α → β → Prop) : List α → List β → Prop
  | [], bs => bs = []
  | a :: as, bs => ∃ b bs', bs = b :: bs' ∧ p a b ∧ All2 p as bs'

/-- The machine's value is the one that is told. -/
def Rel (R : Nat → Option Loc) : AV → Value → Prop
  | .tup l, v => ∃ cs, v = .tuple cs ∧ All2 (Rel0 W ok R) l cs.toList
  | .dead, _ => True
  | x, v => Rel0 W ok R x v
end

/-- A later world: what may be looked at by 'ok' stands as it stood; blocks keep their sizes. -/
structure Later (W W' : World) (ok : Nat → Prop) : Prop where
  keep : ∀ g, ok g → W'.heap[g]? = W.heap[g]?
  shape : ∀ g T m, W.shape? g = some (T, m) → W'.shape? g = some (T, m)

theorem Later.refl (W : World) (ok : Nat → Prop) : Later W W ok := ⟨fun _ _ => rfl, fun _ _ _ h => h⟩

theorem At.later {W W' : World} {ok : Nat → Prop} {ad : Addr} {cs : List Value} (h : At W ad cs) (hb : ok ad.block) (hl : Later W W' ok) : At W' ad cs := by
  intro j u hu
  have hbl : (ad.add j).block = ad.block := by unfold Addr.add; split <;> rfl
  rw [← h j u hu]
  simp [World.cell?, hbl, hl.keep _ hb]

/-- The package-level variables hold what they are told to hold, and may be looked at. -/
def Glob (W : World) (ok : Nat → Prop) : Prop := ∀ p, p ∈ gcells → ok p.1 ∧ At W ⟨p.1, 0, none⟩ p.2
theorem Glob.mono {W W' : World} {ok ok' : Nat → Prop} (h : Glob W ok) (hl : Later W W' ok) (ho : ∀ g, ok g → ok' g) : Glob W' ok' := fun p hp => ⟨ho _ (h p hp).1, (h p hp).2.later (h p hp).1 hl⟩
theorem Glob.up {W : World} {ok ok' : Nat → Prop} (h : Glob W ok) (ho : ∀ g, ok g → ok' g) : Glob W ok' := h.mono (Later.refl W ok) ho
/-- A package-level variable's address, as it is told. -/
def globAV (g : Nat) : AV := match globI.find? (fun p => Nat.beq p.1 g) with
  | some p => .elem (.agg (p.2.2.map (.int p.2.1)))
  | none => .dead

theorem lift_mono {b : Bool} {p q : List Value → Prop} (h : ∀ cs, p cs → q cs) {v : Value} (hp : lift b p v) : lift b q v := by
  unfold lift at *
  split at hp
  · rename_i hb
    rw [if_pos hb]
    obtain ⟨cs, e, hc⟩ := hp
    exact ⟨cs, e, h _ hc⟩
  · rename_i hb
    rw [if_neg hb]
    exact h _ hp

/-- What is told of blocks stays told: R' knows all that R knows. -/
def Knows (R R' : Nat → Option Loc) : Prop := ∀ b loc, R b = some loc → R' b = some loc

section
variable {W W' : World} {ok ok' : Nat → Prop}
mutual
theorem X_mono (hl : Later W W' ok) (ho : ∀ g, ok g → ok' g) : ∀ {R R' : Nat → Option Loc} (hk : Knows R R') (x : AV) (cs : List Value), X W ok R x cs → X W' ok' R' x cs
  | R, R', hk, .dead, cs, h => trivial
  | R, R', hk, .int k n, cs, h => by simpa only [X] using h
  | R, R', hk, .bool b, cs, h => by simpa only [X] using h
  | R, R', hk, .str s, cs, h => by simpa only [X] using h
  | R, R', hk, .nilS, cs, h => by simpa only [X] using h
  | R, R', hk, .nilI, cs, h => by simpa only [X] using h
  | R, R', hk, .err none, cs, h => by simpa only [X] using h
  | R, R', hk, .err (some (a, c)), cs, h => by
    simp only [X] at h ⊢
    obtain ⟨ad, h1, h2, h3⟩ := h
    exact ⟨ad, h1, ho _ h2, h3.later h2 hl⟩
  | R, R', hk, .nilP, cs, h => by simpa only [X] using h
  | R, R', hk, .nilF, cs, h => by simpa only [X] using h
  | R, R', hk, .fn f, cs, h => by simpa only [X] using h
  | R, R', hk, .ints k l, cs, h => by
    simp only [X] at h ⊢
    obtain ⟨A, c, e, hc, h⟩ := h
    refine ⟨A, c, e, hc, ?_⟩
    rcases h with h | ⟨ad, ea, hok, hat⟩
    · exact .inl h
    · exact .inr ⟨ad, ea, ho _ hok, hat.later hok hl⟩
  | R, R', hk, .list e l, cs, h => by
    simp only [X] at h ⊢
    obtain ⟨A, c, ec, hc, he, h⟩ := h
    refine ⟨A, c, ec, hc, he, ?_⟩
    rcases h with h | ⟨ad, ds, ea, hok, hat, hlen, hC⟩
    · exact .inl h
    · exact .inr ⟨ad, ds, ea, ho _ hok, hat.later hok hl, hlen, C_mono hl ho (fun _ _ h => h) _ l ds hC⟩
  | R, R', hk, .elem x, cs, h => by
    simp only [X] at h ⊢
    obtain ⟨ad, ds, e, hok, hat, hx⟩ := h
    exact ⟨ad, ds, e, ho _ hok, hat.later hok hl, X_mono hl ho (fun _ _ h => h) x ds hx⟩
  | R, R', hk, .agg l, cs, h => by
    simp only [X] at h ⊢
    exact C_mono hl ho hk _ l cs h
  | R, R', hk, .tup l, cs, h => by simp only [X] at h
  | R, R', hk, .iface t x, cs, h => by
    simp only [X] at h ⊢
    obtain ⟨y, e, h⟩ := h
    exact ⟨y, e, lift_mono (fun cs hc => X_mono hl ho hk x cs hc) h⟩
  | R, R', hk, .clo f n l, cs, h => by
    simp only [X] at h ⊢
    obtain ⟨us, e, h⟩ := h
    exact ⟨us, e, C_mono hl ho hk _ l us h⟩
  | R, R', hk, .vec b sz, cs, h => by
    simp only [X] at h ⊢
    obtain ⟨loc, e, h⟩ := h
    refine ⟨loc, hk _ _ e, ?_⟩
    rcases h with h | ⟨g, c, T, m, h1, h2, h3, h4, h5⟩
    · exact .inl h
    · exact .inr ⟨g, c, T, m, h1, h2, h3, hl.shape _ _ _ h4, h5⟩
  | R, R', hk, .ref b sz off len cap, cs, h => by
    simp only [X] at h ⊢
    rcases h with h | ⟨loc, g, c, o, T, m, h1, h2, h3, h4, h5, h6, h7, h8, h9⟩
    · exact .inl h
    · exact .inr ⟨loc, g, c, o, T, m, hk _ _ h1, h2, h3, h4, h5, h6, hl.shape _ _ _ h7, h8, h9⟩
  | R, R', hk, .ptr b sz i o, cs, h => by
    simp only [X] at h ⊢
    obtain ⟨loc, g, h1, h2, h3, h4⟩ := h
    exact ⟨loc, g, hk _ _ h1, h2, h3, h4⟩
theorem C_mono (hl : Later W W' ok) (ho : ∀ g, ok g → ok' g) : ∀ {R R' : Nat → Option Loc} (hk : Knows R R') (m : Nat) (xs : List AV) (cs : List Value), C W ok R m xs cs → C W' ok' R' m xs cs
  | R, R', hk, m, [], cs, h => by simpa only [C] using h
  | R, R', hk, m, x :: xs, cs, h => by
    simp only [C] at h ⊢
    obtain ⟨c, d, e, hm, hx, hd⟩ := h
    exact ⟨c, d, e, hm, X_mono hl ho hk x c hx, C_mono hl ho hk m xs d hd⟩
end

theorem Rel0_mono (hl : Later W W' ok) (ho : ∀ g, ok g → ok' g) {R R' : Nat → Option Loc} (hk : Knows R R') {x : AV} {v : Value} (h : Rel0 W ok R x v) : Rel0 W' ok' R' x v :=
  lift_mono (fun cs hc => X_mono hl ho hk x cs hc) h

theorem All2.imp {α β : Type} {p q : α → β → Prop} (h : ∀ a b, p a b → q a b) : ∀ {as : List α} {bs : List β}, All2 p as bs → All2 q as bs
  | [], _, e => e
  | _ :: _, _, ⟨b, bs', e, hp, hr⟩ => ⟨b, bs', e, h _ _ hp, All2.imp h hr⟩

theorem Rel_mono (hl : Later W W' ok) (ho : ∀ g, ok g → ok' g) {R R' : Nat → Option Loc} (hk : Knows R R') {x : AV} {v : Value} (h : Rel W ok R x v) : Rel W' ok' R' x v := by
  unfold Rel at *
  split at h
  · obtain ⟨cs, e, h⟩ := h
    exact ⟨cs, e, h.imp fun _ _ => Rel0_mono hl ho hk⟩
  · trivial
  · exact Rel0_mono hl ho hk h
end

/-! ### forms of Rel -/
section
variable {W : World} {ok : Nat → Prop} {R : Nat → Option Loc} {v : Value}
theorem rel_int {k : IntKind} {n : Int} : Rel W ok R (.int k n) v ↔ v = .int k n := by simp [Rel, Rel0, lift, AV.isAgg, X]
theorem rel_bool {b : Bool} : Rel W ok R (.bool b) v ↔ v = .bool b := by simp [Rel, Rel0, lift, AV.isAgg, X]
theorem rel_str {s : ByteArray} : Rel W ok R (.str s) v ↔ v = .string s := by simp [Rel, Rel0, lift, AV.isAgg, X]
theorem rel_nilS : Rel W ok R .nilS v ↔ v = .slice none 0 0 := by simp [Rel, Rel0, lift, AV.isAgg, X]
theorem X_err {R R' : Nat → Option Loc} {e : Option (Int × Int)} {cs : List Value} : X W ok R (.err e) cs ↔ X W ok R' (.err e) cs := by
  cases e <;> simp only [X]
theorem rel_err {R' : Nat → Option Loc} {e : Option (Int × Int)} : Rel W ok R (.err e) v → Rel W ok R' (.err e) v := by
  intro h
  cases e <;> simpa [Rel, Rel0, lift, AV.isAgg, X] using h
theorem rel_nilI : Rel W ok R .nilI v ↔ v = .nilIface := by simp [Rel, Rel0, lift, AV.isAgg, X]
theorem rel_nilP : Rel W ok R .nilP v ↔ v = .pointer none := by simp [Rel, Rel0, lift, AV.isAgg, X]
theorem rel_nilF : Rel W ok R .nilF v ↔ v = .nilFunc := by simp [Rel, Rel0, lift, AV.isAgg, X]
theorem rel_fn {f : FuncId} : Rel W ok R (.fn f) v ↔ v = .func (.func f) #[] #[] := by simp [Rel, Rel0, lift, AV.isAgg, X]
theorem rel_ints {k : IntKind} {l : List Int} : Rel W ok R (.ints k l) v ↔ ∃ A c, v = .slice A l.length c ∧ l.length ≤ c ∧ (l = [] ∨ ∃ ad, A = some ad ∧ ok ad.block ∧ At W ad (l.map (.int k))) := by
  simp [Rel, Rel0, lift, AV.isAgg, X]
theorem rel_list {e : ETy} {l : List AV} : Rel W ok R (.list e l) v ↔ ∃ A c, v = .slice A l.length c ∧ l.length ≤ c ∧ (∀ x, x ∈ l → wt e x = true) ∧ (l = [] ∨ ∃ ad ds, A = some ad ∧ ok ad.block ∧ At W ad ds ∧ ds.length = l.length * e.sz ∧ C W ok noLoc e.sz l ds) := by
  simp [Rel, Rel0, lift, AV.isAgg, X]
theorem rel_elem {x : AV} : Rel W ok R (.elem x) v ↔ ∃ ad ds, v = .pointer (some ad) ∧ ok ad.block ∧ At W ad ds ∧ X W ok noLoc x ds := by
  simp [Rel, Rel0, lift, AV.isAgg, X]
theorem rel_agg {l : List AV} : Rel W ok R (.agg l) v ↔ ∃ cs, v = .agg cs ∧ C W ok R 1 l cs.toList := by
  simp [Rel, Rel0, lift, AV.isAgg, X]
theorem rel_tup {l : List AV} : Rel W ok R (.tup l) v ↔ ∃ cs, v = .tuple cs ∧ All2 (Rel0 W ok R) l cs.toList := by
  simp [Rel]
theorem rel_iface {t : TypeId} {x : AV} : Rel W ok R (.iface t x) v ↔ ∃ y, v = .iface t y ∧ Rel0 W ok R x y := by
  simp [Rel, Rel0, lift, AV.isAgg, X]
theorem rel_clo {f : FuncId} {n : Nat} {l : List AV} : Rel W ok R (.clo f n l) v ↔ ∃ us : List Value, v = .func (.func f) (us.take n).toArray (us.drop n).toArray ∧ C W ok R 1 l us := by
  simp [Rel, Rel0, lift, AV.isAgg, X]
theorem rel_vec {b sz : Nat} : Rel W ok R (.vec b sz) v ↔ ∃ loc, R b = some loc ∧ ((loc.g = none ∧ loc.n = 0 ∧ v = .slice none 0 0) ∨
      ∃ g c T m, loc.g = some g ∧ v = .slice (some ⟨g, 0, none⟩) loc.n c ∧ loc.n ≤ c ∧ W.shape? g = some (T, m) ∧ c * sz ≤ m) := by
  simp [Rel, Rel0, lift, AV.isAgg, X]
theorem rel_ref {b sz off len : Nat} {cap : Option Nat} : Rel W ok R (.ref b sz off len cap) v ↔ (len = 0 ∧ (∀ c', cap = some c' → c' = 0) ∧ v = .slice none 0 0) ∨
      ∃ loc g c o T m, R b = some loc ∧ loc.g = some g ∧ v = .slice (some ⟨g, o, none⟩) len c ∧ len ≤ c ∧ (∀ c', cap = some c' → c = c') ∧ (0 < c ∨ off = 0 → o = off * sz) ∧ W.shape? g = some (T, m) ∧ (off + c) * sz ≤ m ∧ off + len ≤ loc.n := by
  simp [Rel, Rel0, lift, AV.isAgg, X]
theorem rel_ptr {b sz i o : Nat} : Rel W ok R (.ptr b sz i o) v ↔ ∃ loc g, R b = some loc ∧ loc.g = some g ∧ v = .pointer (some ⟨g, i * sz + o, none⟩) ∧ i < loc.n := by
  simp [Rel, Rel0, lift, AV.isAgg, X]
theorem rel_dead : Rel W ok R .dead v := by simp [Rel]
end
end Go.RX

/- What each operation does to values as they are told: a function, without memory. -/
set_option linter.unusedVariables false
namespace Go.RX

/-! ### numbers -/
def addI (k : IntKind) (a b : Int) : Int := k.wrap (a + b)
def subI (k : IntKind) (a b : Int) : Int := k.wrap (a - b)
def mulI (k : IntKind) (a b : Int) : Int := k.wrap (a * b)
def divI (k : IntKind) (a b : Int) : Int := k.wrap (a.tdiv b)
def remI (a b : Int) : Int := a.tmod b
def andI (k : IntKind) (x y : Int) : Int := k.wrap (BitVec.ofInt k.bits x &&& BitVec.ofInt k.bits y).toNat
def orI (k : IntKind) (x y : Int) : Int := k.wrap (BitVec.ofInt k.bits x ||| BitVec.ofInt k.bits y).toNat
def xorI (k : IntKind) (x y : Int) : Int := k.wrap (BitVec.ofInt k.bits x ^^^ BitVec.ofInt k.bits y).toNat
def andNotI (k : IntKind) (x y : Int) : Int := k.wrap (BitVec.ofInt k.bits x &&& ~~~ (BitVec.ofInt k.bits y)).toNat
def shlI (k : IntKind) (x n : Int) : Int := k.wrap (x * 2 ^ (min n.toNat k.bits))
def shrI (k : IntKind) (x n : Int) : Int := x.fdiv (2 ^ (min n.toNat k.bits))
def notI (k : IntKind) (n : Int) : Int := xorI k (if k.signed then -1 else k.max) n
def cvI (k : IntKind) (n : Int) : Int := k.wrap n
def maxI (x y : Int) : Int := if y > x then y else x
def minI (x y : Int) : Int := if y < x then y else x
def rdI (l : List Int) (i : Int) : Int := l.getD i.toNat 0
def wrI (l : List Int) (i : Nat) (v : Int) : List Int := l.set i v
def strEq (a b : ByteArray) : Bool := a.toList == b.toList
def strCat (a b : ByteArray) : ByteArray := a ++ b
def byteAt (s : ByteArray) (i : Int) : Int := ((s.data.toList.getD i.toNat 0).toNat : Int)
def strOfI (l : List Int) : ByteArray := ⟨(l.map fun n => UInt8.ofNat n.toNat).toArray⟩
def splice (l : List Int) (off : Nat) (xs : List Int) : List Int := l.take off ++ xs ++ l.drop (off + xs.length)
def spliceA (l : List AV) (off : Nat) (xs : List AV) : List AV := l.take off ++ xs ++ l.drop (off + xs.length)

/-! ### types -/
inductive TK
  | int (k : IntKind)
  | bool
  | str
  | slice (e : TypeId)
  | arr (n : Nat) (e : TypeId)
  | st (fs : List (TypeId × Nat))
  | ptr
  | fn
  | iface
  | other
structure TyD where
  tk : TK
  sz : Nat
  bytes : Nat
  ety : ETy
  zero : AV
def scalT : ETy → Bool
  | .int _ => true
  | .bool => true
  | .str => true
  | _ => false
/-- A struct whose values may be compared, field by field. -/
def TyD.eq (d : TyD) : Bool := match d.ety with
  | .st fs => fs.all scalT
  | _ => false
def TK.isAgg : TK → Bool
  | .arr _ _ | .st _ => true
  | _ => false
abbrev Tab := TypeId → Option TyD
def tabOf : List (Nat × TyD) → Nat → Option TyD
  | [], _ => none
  | (n, d) :: r, t => cond (Nat.beq n t) (some d) (tabOf r t)

/-! ### blocks -/
inductive Blk
  | dead
  | I (ty : TypeId) (k : IntKind) (l : List Int)
  | A (ty : TypeId) (e : ETy) (l : List AV)
instance : Inhabited Blk := ⟨.dead⟩
def Blk.len : Blk → Nat
  | .dead => 0
  | .I _ _ l => l.length
  | .A _ _ l => l.length
def Blk.live : Blk → Bool
  | .dead => false
  | _ => true
def Blk.esz : Blk → Nat
  | .dead => 0
  | .I _ _ _ => 1
  | .A _ e _ => e.sz
def Blk.cut (n : Nat) : Blk → Blk
  | .dead => .dead
  | .I ty k l => .I ty k (l.take n)
  | .A ty e l => .A ty e (l.take n)
/-- A block's type id, 1000000 more, tells that it may not move: it is a caller's. -/
def realTy (t : TypeId) : TypeId := cond (Nat.ble 1000000 t) (t - 1000000) t
/-- 2000000 more: the row of a conversion, with the mark behind it. -/
def isMk (t : TypeId) : Bool := Nat.ble 2000000 t
def blkTy (t : TypeId) : TypeId := cond (isMk t) (t - 2000000) (realTy t)
def markOf (t : TypeId) (n : Nat) : Nat × Nat := cond (isMk t) (n, n + 1) (0, 0)
def pinT (t : TypeId) : Bool := Nat.ble 1000000 t && !(isMk t)
def Blk.pinned : Blk → Bool
  | .dead => false
  | .I ty _ _ => pinT ty
  | .A ty _ _ => Nat.ble 1000000 ty
theorem realTy_small {t : TypeId} (h : Nat.ble 1000000 t = false) : realTy t = t := by rw [realTy, h]; rfl
theorem isMk_small {t : TypeId} (h : Nat.ble 1000000 t = false) : isMk t = false := by
  cases h2 : isMk t
  · rfl
  · have := Nat.le_of_ble_eq_true h2
    have h3 : Nat.ble 1000000 t = true := Nat.ble_eq_true_of_le (by omega)
    rw [h3] at h
    cases h
theorem blkTy_small {t : TypeId} (h : Nat.ble 1000000 t = false) : blkTy t = t := by rw [blkTy, isMk_small h, cond_false, realTy_small h]
theorem markOf_small {t : TypeId} (h : Nat.ble 1000000 t = false) (n : Nat) : markOf t n = (0, 0) := by rw [markOf, isMk_small h]; rfl
theorem pinT_small {t : TypeId} (h : Nat.ble 1000000 t = false) : pinT t = false := by rw [pinT, h]; rfl
def realN (t : Nat) : Nat := cond (Nat.ble 1000000 t) (t - 1000000) t
theorem realN_eq (t : Nat) : (realN t = t ∧ t < 1000000) ∨ (realN t = t - 1000000 ∧ 1000000 ≤ t) := by
  unfold realN
  cases h2 : Nat.ble 1000000 t
  · have : ¬ (1000000 ≤ t) := fun hl => by
      have := Nat.ble_eq_true_of_le hl
      rw [this] at h2
      cases h2
    exact .inl ⟨cond_false _ _, Nat.lt_of_not_le this⟩
  · exact .inr ⟨cond_true _ _, Nat.le_of_ble_eq_true h2⟩
theorem isMk_nat (t : Nat) : (isMk t = true ∧ 2000000 ≤ t) ∨ (isMk t = false ∧ t < 2000000) := by
  unfold isMk
  cases h1 : Nat.ble 2000000 t
  · have : ¬ (2000000 ≤ t) := fun hl => by
      have := Nat.ble_eq_true_of_le hl
      rw [this] at h1
      cases h1
    exact .inr ⟨rfl, Nat.lt_of_not_le this⟩
  · exact .inl ⟨rfl, Nat.le_of_ble_eq_true h1⟩
theorem realTy_blkN {t t' : Nat} (h : realN t = realN t') : blkTy t = blkTy t' ∧ ∀ n, markOf t n = markOf t' n := by
  have hr := realN_eq t
  have hr' := realN_eq t'
  rcases isMk_nat t with ⟨a1, a2⟩ | ⟨a1, a2⟩ <;> rcases isMk_nat t' with ⟨b1, b2⟩ | ⟨b1, b2⟩
  · have e : t = t' := by omega
    subst e
    exact ⟨rfl, fun _ => rfl⟩
  · omega
  · omega
  · exact ⟨by rw [blkTy, blkTy, a1, b1, cond_false, cond_false]; exact h, fun n => by rw [markOf, markOf, a1, b1]⟩
theorem realTy_blk {t t' : TypeId} (h : realTy t = realTy t') : blkTy t = blkTy t' ∧ ∀ n, markOf t n = markOf t' n := realTy_blkN h
theorem markOf_ok (t : TypeId) (n : Nat) : markOf t n = (0, 0) ∨ n ≤ (markOf t n).1 := by
  unfold markOf
  cases isMk t
  · exact .inl rfl
  · exact .inr (Nat.le_refl _)
def hget : List Blk → Nat → Blk
  | [], _ => .dead
  | x :: _, 0 => x
  | _ :: xs, n + 1 => hget xs n
def hset : List Blk → Nat → Blk → List Blk
  | [], _, _ => []
  | _ :: xs, 0, b => b :: xs
  | x :: xs, n + 1, b => x :: hset xs n b

/-- A slice, as it may be looked at. -/
def view (H : List Blk) : AV → AV
  | .vec b _ => match hget H b with
    | .I _ k l => .ints k l
    | .A _ e l => .list e l
    | .dead => .dead
  | .ref b sz off len _ => match hget H b with
    | .I _ k l => cond (Nat.beq sz 1) (.ints k ((l.drop off).take len)) .dead
    | .A _ e l => cond (Nat.beq sz e.sz) (.list e ((l.drop off).take len)) .dead
    | .dead => .dead
  | x => x

mutual
/-- As an element or an argument of a kind: a nil slice is an empty one. -/
def fitE : ETy → AV → AV
  | .sl e, x => match x with
    | .nilS => match e with
      | .int k => .ints k []
      | e => .list e []
    | x => x
  | .st fs, x => match x with
    | .agg l => .agg (fitL fs l)
    | x => x
  | .err, x => match x with
    | .nilI => .err none
    | x => x
  | _, x => x
def fitL : List ETy → List AV → List AV
  | e :: es, x :: xs => fitE e x :: fitL es xs
  | _, xs => xs
end
/-- A value made ready to be held in memory or handed on: slices as what they hold, nil as empty. -/
def pureV (H : List Blk) (e : ETy) (x : AV) : AV := fitE e (match x with | .agg l => .agg (l.map (view H)) | x => view H x)

def isRef : AV → Bool
  | .vec _ _ | .ref _ _ _ _ _ | .ptr _ _ _ _ => true
  | _ => false
def refOf : AV → List Nat
  | .vec b _ | .ref b _ _ _ _ | .ptr b _ _ _ => [b]
  | .agg l => (l.map fun | .vec b _ | .ref b _ _ _ _ | .ptr b _ _ _ => [b] | _ => []).flatten
  | _ => []

/-! ### contracts -/
/-- How an argument is handed on: looked at alone; a row of the caller's own, given away; a pointer to a struct of the caller's own, written in its place. -/
inductive PM
  | v (e : ETy)
  | c (ty : TypeId) (e : ETy)
  | p (ty : TypeId) (fs : List ETy)
def PM.e : PM → ETy
  | .v e => e
  | .c _ e => .sl e
  | .p _ fs => .st fs
/-- How an answer comes back: as a value; as a row that is the caller's own. -/
inductive RM
  | v (e : ETy)
  | o (ty : TypeId) (e : ETy)
def RM.e : RM → ETy
  | .v e => e
  | .o _ e => .sl e
structure Ctr where
  ps : List ETy
  T : Type
  f : List AV → Option T
  res : T → Nat → AV
  new : T → List Blk
  scal : Bool
  win : Option (TypeId × IntKind) := none
  fw : List Int → List AV → Option (List Int × T) := fun _ _ => none
  gm : Option (List PM × List RM) := none
  fg : List AV → Option T := fun _ => none
  gre : T → List AV := fun _ => []
  /-- The last arguments are what a closure holds. -/
  cl : Option (FuncId × Nat) := none

/-! ### operations that make no memory -/
def lenAV (H : List Blk) : AV → Option Nat
  | .ints _ l => some l.length
  | .list _ l => some l.length
  | .nilS => some 0
  | .vec b _ => some (hget H b).len
  | .ref _ _ _ len _ => some len
  | .str s => some s.size
  | _ => none

def isConst : Operand → Bool
  | .const _ => true
  | _ => false
/-- Two structs, field by field. -/
def eqFs (tab : Tab) : List (TypeId × Nat) → List AV → List AV → Option Bool
  | [], _, _ => some true
  | (ft, off) :: r, a, b => match tab ft with
    | some d => match d.tk with
      | .int k => match aget a off, aget b off with
        | .int k1 x, .int k2 y => cond (ksame k1 k2) ((eqFs tab r a b).map fun z => (x == y) && z) none
        | _, _ => none
      | .bool => match aget a off, aget b off with
        | .bool x, .bool y => (eqFs tab r a b).map fun z => (x == y) && z
        | _, _ => none
      | .str => match aget a off, aget b off with
        | .str x, .str y => (eqFs tab r a b).map fun z => strEq x y && z
        | _, _ => none
      | _ => none
    | none => none
/-- Comparing structs; comparing with nil. -/
def pvEq (tab : Tab) (c : Bool) (t : TypeId) (x y : AV) : Option Bool :=
  match tab t with
  | some d => match d.tk with
    | .st fs => match x, y with
      | .agg a, .agg b => cond d.eq (eqFs tab fs a b) none
      | _, _ => none
    | .iface => match x, y with
      | .nilI, .nilI => cond c (some true) none
      | .iface _ _, .nilI => some false
      | .nilI, .iface _ _ => some false
      | _, _ => none
    | .ptr => match x, y with
      | .nilP, .nilP => some true
      | .elem _, .nilP => some false
      | .ptr _ _ _ _, .nilP => some false
      | _, _ => none
    | .fn => match x, y with
      | .nilF, .nilF => some true
      | .fn _, .nilF => some false
      | .clo _ _ _, .nilF => some false
      | _, _ => none
    | _ => none
  | none => none

def errSome (e : Option (Int × Int)) : Bool := e.isSome
def pvBin0 (tab : Tab) (c : Bool) (op : BinOp) (t : TypeId) (x y : AV) : Option (Bool × AV) :=
  match x, y with
  | .int k a, .int k' b => match op with
    | .shl => some (decide (0 ≤ b), .int k (shlI k a b))
    | .shr => some (decide (0 ≤ b), .int k (shrI k a b))
    | op => cond (ksame k k') (match op with
      | .add => some (true, .int k (addI k a b))
      | .sub => some (true, .int k (subI k a b))
      | .mul => some (true, .int k (mulI k a b))
      | .quo => some (b != 0, .int k (divI k a b))
      | .rem => some (b != 0, .int k (remI a b))
      | .and => some (true, .int k (andI k a b))
      | .or => some (true, .int k (orI k a b))
      | .xor => some (true, .int k (xorI k a b))
      | .andNot => some (true, .int k (andNotI k a b))
      | .eql => some (true, .bool (a == b))
      | .neq => some (true, .bool (a != b))
      | .lss => some (true, .bool (decide (a < b)))
      | .leq => some (true, .bool (decide (a ≤ b)))
      | .gtr => some (true, .bool (decide (a > b)))
      | .geq => some (true, .bool (decide (a ≥ b)))
      | _ => none) none
  | .bool a, .bool b => match tab t with
    | some { tk := .bool, .. } => match op with
      | .eql => some (true, .bool (a == b))
      | .neq => some (true, .bool (a != b))
      | _ => none
    | _ => none
  | .str a, .str b => match op with
    | .add => some (decide (a.size + b.size ≤ 9223372036854775807), .str (strCat a b))
    | .eql => some (true, .bool (strEq a b))
    | .neq => some (true, .bool !(strEq a b))
    | .lss => some (true, .bool (Op.bytesLess a.toList b.toList))
    | .leq => some (true, .bool (Op.bytesLess a.toList b.toList || a.toList == b.toList))
    | .gtr => some (true, .bool !(Op.bytesLess a.toList b.toList || a.toList == b.toList))
    | .geq => some (true, .bool !(Op.bytesLess a.toList b.toList))
    | _ => none
  | x, y => match op with
    | .eql => (pvEq tab c t x y).map fun b => (true, .bool b)
    | .neq => (pvEq tab c t x y).map fun b => (true, .bool !b)
    | _ => none
def pvBin (tab : Tab) (c : Bool) (op : BinOp) (t : TypeId) (x y : AV) : Option (Bool × AV) :=
  match x, y with
  | .err e, .nilI => match tab t with
    | some { tk := .iface, .. } => match op with
      | .eql => some (cond c true (errSome e), .bool !(errSome e))
      | .neq => some (cond c true (errSome e), .bool (errSome e))
      | _ => none
    | _ => none
  | x, y => pvBin0 tab c op t x y

def pvUn (op : UnOp) (x : AV) : Option AV :=
  match op, x with
  | .neg, .int k n => some (.int k (subI k 0 n))
  | .xor, .int k n => some (.int k (notI k n))
  | .not, .bool b => some (.bool !b)
  | _, _ => none

def pvConv (tab : Tab) (src dst : TypeId) (x : AV) : Option AV :=
  match tab src, tab dst, x with
  | some _, some { tk := .int k, .. }, .int _ n => some (.int k (cvI k n))
  | some _, some { tk := .str, .. }, .str s => some (.str s)
  | _, _, _ => none

def pvField (tab : Tab) (t : TypeId) (x : AV) (f : Nat) : Option AV :=
  match tab t, x with
  | some { tk := .st fs, .. }, .agg l => match fs[f]? with
    | some (ft, off) => match tab ft with
      | some d => cond d.tk.isAgg (cond (Nat.ble (off + d.sz) l.length) (some (.agg ((l.drop off).take d.sz))) none) (cond (Nat.blt off l.length && !(aget l off).isAgg) (some (aget l off)) none)
      | none => none
    | none => none
  | _, _ => none

def inRange (i : Int) (n : Nat) : Bool := decide (0 ≤ i) && decide (i < (n : Int))

def allInt (k : IntKind) : List AV → Bool
  | [] => true
  | .int k' _ :: xs => ksame k k' && allInt k xs
  | _ => false

def pvIndex (tab : Tab) (t : TypeId) (x ix : AV) : Option (Bool × AV) :=
  match ix with
  | .int _ i => match tab t, x with
    | some { tk := .str, .. }, .str s => some (inRange i s.size, .int .u8 (byteAt s i))
    | some { tk := .arr n e, .. }, .agg l => match tab e with
      | some { tk := .int k, sz := 1, .. } => cond (allInt k l && Nat.beq l.length n) (some (inRange i n, .int k (aget l i.toNat).toInt)) none
      | some d => cond (d.tk.isAgg && Nat.beq (n * d.sz) l.length) (some (inRange i n, .agg ((l.drop (i.toNat * d.sz)).take d.sz))) none
      | _ => none
    | _, _ => none
  | _ => none

def pvIndexAddr (tab : Tab) (H : List Blk) (t : TypeId) (x ix : AV) : Option (Bool × AV) :=
  match ix with
  | .int _ i => match tab t with
    | some { tk := .slice e, .. } => match tab e with
      | some d => match x with
        | .ints k l => cond (Nat.beq d.sz 1) (some (inRange i l.length, .elem (.int k (rdI l i)))) none
        | .list et l => cond (Nat.beq d.sz et.sz) (some (inRange i l.length, .elem (eta et (aget l i.toNat)))) none
        | .vec b sz => cond (Nat.beq d.sz sz) (some (inRange i (hget H b).len, .ptr b sz i.toNat 0)) none
        | .ref b sz off len _ => cond (Nat.beq d.sz sz) (some (inRange i len, .ptr b sz (off + i.toNat) 0)) none
        | _ => none
      | none => none
    | some { tk := .arr n e, .. } => match tab e with
      | some d => match x with
        | .ptr b sz j o => cond (Nat.beq d.sz sz && Nat.beq j 0 && Nat.beq o 0) (some (inRange i n && decide ((hget H b).len = n), .ptr b sz i.toNat 0)) (cond (Nat.ble (o + n * d.sz) sz) (some (inRange i n, .ptr b sz j (o + i.toNat * d.sz))) none)
        | _ => none
      | none => none
    | _ => none
  | _ => none

def pvFieldAddr (tab : Tab) (t : TypeId) (x : AV) (f : Nat) : Option AV :=
  match tab t with
  | some { tk := .st fs, .. } => match fs[f]? with
    | some (ft, off) => match tab ft with
      | some d => match x with
        | .ptr b sz i o => cond (Nat.ble (o + off + d.sz) sz) (some (.ptr b sz i (o + off))) none
        | .elem (.agg l) => cond d.tk.isAgg none (cond (Nat.blt off l.length && !(aget l off).isAgg) (some (.elem (aget l off))) none)
        | _ => none
      | none => none
    | none => none
  | _ => none

def optInt (ev : Operand → AV) : Option Operand → Option (Option Int)
  | none => some none
  | some o => match ev o with
    | .int _ n => some (some n)
    | _ => none

/-- 0 <= lo <= hi <= m <= n, as far as they are given. -/
def cutOk (lo hi mx : Option Int) (n : Nat) : Bool :=
  match lo, hi, mx with
  | none, none, none => true
  | some l, none, none => decide (0 ≤ l) && decide (l ≤ (n : Int))
  | none, some h, none => decide (0 ≤ h) && decide (h ≤ (n : Int))
  | some l, some h, none => decide (0 ≤ l) && decide (l ≤ h) && decide (h ≤ (n : Int))
  | none, some h, some m => decide (0 ≤ h) && decide (h ≤ m) && decide (m ≤ (n : Int))
  | some l, some h, some m => decide (0 ≤ l) && decide (l ≤ h) && decide (h ≤ m) && decide (m ≤ (n : Int))
  | _, none, some _ => false

def cutL {α : Type} (l : List α) (lo hi : Option Int) : List α :=
  let l1 := match hi with
    | some h => l.take h.toNat
    | none => l
  match lo with
  | some a => l1.drop a.toNat
  | none => l1

def pvSlice (tab : Tab) (ev : Operand → AV) (H : List Blk) (t : TypeId) (x : AV) (lo hi mx : Option Operand) : Option (Bool × AV) :=
  match optInt ev lo, optInt ev hi, optInt ev mx with
  | some a, some b, some m => match tab t with
    | some { tk := .slice e, .. } => match tab e with
      | some d => match x with
        | .ints k l => cond (Nat.beq d.sz 1) (some (cutOk a b m l.length, .ints k (cutL l a b))) none
        | .list et l => cond (Nat.beq d.sz et.sz) (some (cutOk a b m l.length, .list et (cutL l a b))) none
        | .nilS => some (cutOk a b m 0, .nilS)
        | .vec bl sz => cond (Nat.beq d.sz sz) (some (cutOk a b m (hget H bl).len, .ref bl sz (a.getD 0).toNat ((b.getD ((hget H bl).len : Int)) - a.getD 0).toNat (m.map fun m => (m - a.getD 0).toNat))) none
        | .ref bl sz off len cap => cond (Nat.beq d.sz sz) (some (cutOk a b m len, .ref bl sz (off + (a.getD 0).toNat) ((b.getD (len : Int)) - a.getD 0).toNat (match m with | some m => some (m - a.getD 0).toNat | none => cap.map fun c => c - (a.getD 0).toNat))) none
        | _ => none
      | none => none
    | some { tk := .str, .. } => match x, m with
      | .str s, none => some (cutOk a b none s.size, .str (s.extract (a.getD 0).toNat (b.getD (s.size : Int)).toNat))
      | _, _ => none
    | _ => none
  | _, _, _ => none

def pvMM (mx : Bool) : List AV → Option AV
  | [] => none
  | .int k a :: r => go k a r
  | _ => none
where go (k : IntKind) (a : Int) : List AV → Option AV
  | [] => some (.int k a)
  | .int _ b :: r => go k (cond mx (maxI a b) (minI a b)) r
  | _ => none

def asetL : List AV → Nat → List AV → List AV
  | l, off, vs => l.take off ++ vs ++ l.drop (off + vs.length)

def cellsAV : AV → Option (List AV)
  | .agg l => some l
  | .dead => none
  | .tup _ => none
  | x => some [x]

/-- The parts of a struct or an array that is built. -/
def pvFill (place : Nat → Option (Nat × Nat)) : List AV → List (Nat × AV) → Option (List AV)
  | l, [] => some l
  | l, (i, v) :: r => match place i with
    | some (off, size) =>
      match cellsAV v with
      | some vs => cond (Nat.beq vs.length size && Nat.ble (off + size) l.length) (pvFill place (asetL l off vs) r) none
      | none => none
    | none => none

def pvBuild (tab : Tab) (ev : Operand → AV) (t : TypeId) (parts : List (Nat × Operand)) : Option AV :=
  match tab t with
  | some { tk := .st fs, zero := .agg z, .. } =>
    cond (fs.all fun p => (tab p.1).isSome) ((pvFill (fun i => (fs.map fun p => (p.2, ((tab p.1).map (·.sz)).getD 0))[i]?) z (parts.map fun p => (p.1, ev p.2))).map .agg) none
  | some { tk := .arr _ e, zero := .agg z, .. } => match tab e with
    | some d => (pvFill (fun i => some (i * d.sz, d.sz)) z (parts.map fun p => (p.1, ev p.2))).map .agg
    | none => none
  | _ => none

def always : Option AV → Option (Bool × AV)
  | some v => some (true, v)
  | none => none

/-- An operation that makes no memory and writes none: what it needs, and its value. -/
def pv (tab : Tab) (ev : Operand → AV) (H : List Blk) : Op → Option (Bool × AV)
  | .move x | .assign x => some (true, ev x)
  | .binOp op t x y _ => pvBin tab (isConst x || isConst y) op t (ev x) (ev y)
  | .unOp op _ x => always (pvUn op (ev x))
  | .convert src dst x => always (pvConv tab src dst (ev x))
  | .extract x i => match ev x with
    | .tup l => cond (Nat.blt i l.length) (some (true, aget l i)) none
    | _ => none
  | .field t x f => always (pvField tab t (ev x) f)
  | .index t x i => pvIndex tab t (ev x) (ev i)
  | .indexAddr t x i => pvIndexAddr tab H t (ev x) (ev i)
  | .fieldAddr t x f => always (pvFieldAddr tab t (ev x) f)
  | .slice t x lo hi mx => pvSlice tab ev H t (ev x) lo hi mx
  | .build t parts => always (pvBuild tab ev t parts.toList)
  | .nilCheck x => match ev x with
    | .ptr b sz i o => some (true, .ptr b sz i o)
    | .elem x => some (true, .elem x)
    | _ => none
  | .call { callee := .builtin b, args, argTypes } => match b with
    | .len => match args.toList, argTypes.toList with
      | [x], [t] => match tab t with
        | some { tk := .slice _, .. } => match ev x with
          | .str _ => none
          | v => match lenAV H v with
            | some n => some (true, .int .i64 (n : Int))
            | none => none
        | some { tk := .str, .. } => match ev x with
          | .str s => some (true, .int .i64 s.size)
          | _ => none
        | some { tk := .arr n _, .. } => some (true, .int .i64 n)
        | _ => none
      | _, _ => none
    | .max => always (pvMM true (args.toList.map ev))
    | .min => always (pvMM false (args.toList.map ev))
    | _ => none
  | _ => none

end Go.RX

/- The operations that make no memory: what the machine does is what is told. -/
set_option linter.unusedVariables false
set_option linter.unusedSimpArgs false
namespace Go.RX

/-! ### types -/
def TK.desc (tk : TK) (P : Program) (t : TypeId) : Prop :=
  match tk with
  | .int k => P.underlying t = some (.int k)
  | .bool => P.underlying t = some .bool
  | .str => P.underlying t = some .string
  | .slice e => P.underlying t = some (.slice e)
  | .arr n e => P.underlying t = some (.array n e)
  | .st fs => ∃ fields, P.underlying t = some (.struct fields) ∧ fields.toList.map (fun f => (f.type, f.offset)) = fs
  | .ptr => ∃ e, P.underlying t = some (.pointer e)
  | .iface => ∃ ms, P.underlying t = some (.interface ms)
  | .fn => ∃ a b c, P.underlying t = some (.func a b c)
  | .other => ∃ d, P.underlying t = some d ∧ ¬ (∃ f, d = .struct f) ∧ ¬ (∃ n e, d = .array n e)

structure TyOk (P : Program) (t : TypeId) (d : TyD) (z : Value) : Prop where
  desc : d.tk.desc P t
  info : (P.info? t).map (fun i => (i.size, i.bytes, i.zero)) = some (d.sz, d.bytes, some z)
  zero : ∀ W ok R, Rel0 W ok R d.zero z
  size : d.ety.sz = d.sz
  wt : wt d.ety (fitE d.ety d.zero) = true
  agg : d.tk.isAgg = d.zero.isAgg
  pos : 0 < d.sz
  small : Nat.ble 1000000 t = false
  eqs : d.eq = true → P.eqGuardType P.depth t = false ∧ P.stoodInHeld t = false ∧ ((P.fieldsOf t).toList.all fun f => f.name != "_") = true

def TabOk (P : Program) (tab : Tab) : Prop := ∀ t d, tab t = some d → ∃ z, TyOk P t d z

section
variable {P : Program} {t : TypeId} {d : TyD} {z : Value} (w : World)
def aggDesc : TypeDesc → Bool
  | .struct _ | .array _ _ => true
  | _ => false
theorem isAgg_of {dsc : TypeDesc} (hd : P.underlying t = some dsc) : (Go.isAgg t).run P w = .ok (aggDesc dsc) w := by
  simp only [Go.isAgg, Sem.run_bind, run_underlying hd, Result.andThen_ok]
  cases dsc <;> rfl
theorem TyOk.isAgg (h : TyOk P t d z) : (Go.isAgg t).run P w = .ok d.tk.isAgg w := by
  have hd := h.desc
  cases ht : d.tk with
  | int k => rw [ht] at hd; exact isAgg_of w hd
  | bool => rw [ht] at hd; exact isAgg_of w hd
  | str => rw [ht] at hd; exact isAgg_of w hd
  | slice e => rw [ht] at hd; exact isAgg_of w hd
  | arr n e => rw [ht] at hd; exact isAgg_of w hd
  | st fs => rw [ht] at hd; obtain ⟨fields, hd, _⟩ := hd; exact isAgg_of w hd
  | ptr => rw [ht] at hd; obtain ⟨e, hd⟩ := hd; exact isAgg_of w hd
  | iface => rw [ht] at hd; obtain ⟨e, hd⟩ := hd; exact isAgg_of w hd
  | fn => rw [ht] at hd; obtain ⟨a, b, c, hd⟩ := hd; exact isAgg_of w hd
  | other => rw [ht] at hd; obtain ⟨dsc, hd, h1, h2⟩ := hd; rw [isAgg_of w hd]; cases dsc <;> first | rfl | exact absurd ⟨_, rfl⟩ h1 | exact absurd ⟨_, _, rfl⟩ h2
theorem TyOk.sizeOf (h : TyOk P t d z) : (Go.sizeOf t).run P w = .ok d.sz w := by
  have hi := h.info
  cases hx : P.info? t with
  | none => simp [hx] at hi
  | some i =>
    simp only [hx, Option.map_some, Option.some.injEq, Prod.mk.injEq] at hi
    simp [Go.sizeOf, run_typeInfo _ hx, hi.1]
theorem TyOk.info' (h : TyOk P t d z) : ∃ i, P.info? t = some i ∧ i.size = d.sz ∧ i.bytes = d.bytes ∧ i.zero = some z := by
  have hi := h.info
  cases hx : P.info? t with
  | none => simp [hx] at hi
  | some i =>
    simp only [hx, Option.map_some, Option.some.injEq, Prod.mk.injEq] at hi
    exact ⟨i, rfl, hi.1, hi.2.1, hi.2.2⟩
theorem TyOk.zeroValue (h : TyOk P t d z) : (Go.zeroValue t).run P w = .ok z w := by
  obtain ⟨i, hx, _, _, hz⟩ := h.info'
  simp [Go.zeroValue, run_typeInfo _ hx, hz]
theorem TyOk.typeInfo (h : TyOk P t d z) : ∃ i, (Go.typeInfo t).run P w = .ok i w ∧ i.size = d.sz ∧ i.bytes = d.bytes ∧ i.zero = some z := by
  obtain ⟨i, hx, h1, h2, h3⟩ := h.info'
  exact ⟨i, by simp [run_typeInfo _ hx], h1, h2, h3⟩
end

/-! ### lists of cells -/
section
variable {W : World} {ok : Nat → Prop} {R : Nat → Option Loc}
theorem C_length : ∀ (m : Nat) (l : List AV) (cs : List Value), C W ok R m l cs → cs.length = l.length * m
  | m, [], cs, h => by simp only [C] at h; simp [h]
  | m, x :: xs, cs, h => by
    simp only [C] at h
    obtain ⟨c, d, e, hm, _, hd⟩ := h
    rw [e, List.length_append, C_length m xs d hd, hm]
    simp [Nat.add_mul, Nat.add_comm]
theorem C_at : ∀ (m : Nat) (l : List AV) (cs : List Value), C W ok R m l cs → ∀ i, i < l.length → X W ok R (aget l i) ((cs.drop (i * m)).take m)
  | m, [], cs, h, i, hi => by simp at hi
  | m, x :: xs, cs, h, i, hi => by
    simp only [C] at h
    obtain ⟨c, d, e, hm, hx, hd⟩ := h
    subst e
    cases i with
    | zero => simpa [aget, ← hm] using hx
    | succ i =>
      have := C_at m xs d hd i (by simpa using hi)
      simp only [aget]
      rwa [Nat.succ_mul, Nat.add_comm, ← List.drop_drop, List.drop_append_of_le_length (by omega), List.drop_of_length_le (l := c) (by omega), List.nil_append]
theorem C_one {l : List AV} {cs : List Value} (h : C W ok R 1 l cs) (i : Nat) (hi : i < l.length) : ∃ u, cs[i]? = some u ∧ X W ok R (aget l i) [u] := by
  have hl := C_length 1 l cs h
  have hx := C_at 1 l cs h i hi
  have hi' : i < cs.length := by omega
  refine ⟨cs[i], List.getElem?_eq_getElem hi', ?_⟩
  have : (cs.drop (i * 1)).take 1 = [cs[i]] := by
    rw [Nat.mul_one, List.drop_eq_getElem_cons hi']
    rfl
  rwa [this] at hx
theorem C_append {m : Nat} : ∀ {l l' : List AV} {cs cs' : List Value}, C W ok R m l cs → C W ok R m l' cs' → C W ok R m (l ++ l') (cs ++ cs')
  | [], l', cs, cs', h, h' => by simp only [C] at h; subst h; simpa using h'
  | x :: xs, l', cs, cs', h, h' => by
    simp only [C] at h
    obtain ⟨c, d, e, hm, hx, hd⟩ := h
    simp only [List.cons_append, C]
    exact ⟨c, d ++ cs', by rw [e, List.append_assoc], hm, hx, C_append hd h'⟩
theorem C_take {m : Nat} : ∀ {l : List AV} {cs : List Value} (n : Nat), C W ok R m l cs → C W ok R m (l.take n) (cs.take (n * m))
  | [], cs, n, h => by simp only [C] at h; subst h; simp [C]
  | x :: xs, cs, 0, h => by simp [C]
  | x :: xs, cs, n + 1, h => by
    simp only [C] at h
    obtain ⟨c, d, e, hm, hx, hd⟩ := h
    subst e
    simp only [List.take_succ_cons, C]
    refine ⟨c, d.take (n * m), ?_, hm, hx, C_take n hd⟩
    rw [Nat.succ_mul, Nat.add_comm, List.take_append, List.take_of_length_le (by omega)]
    congr 2
    omega
theorem C_drop {m : Nat} : ∀ {l : List AV} {cs : List Value} (n : Nat), C W ok R m l cs → C W ok R m (l.drop n) (cs.drop (n * m))
  | [], cs, n, h => by simp only [C] at h; subst h; simp [C]
  | x :: xs, cs, 0, h => by simpa using h
  | x :: xs, cs, n + 1, h => by
    simp only [C] at h
    obtain ⟨c, d, e, hm, hx, hd⟩ := h
    subst e
    rw [List.drop_succ_cons, Nat.succ_mul, Nat.add_comm, ← List.drop_drop, List.drop_append_of_le_length (by omega), List.drop_of_length_le (l := c) (by omega), List.nil_append]
    exact C_drop n hd
theorem C_sub {m : Nat} {l : List AV} {cs : List Value} (off n : Nat) (h : C W ok R m l cs) : C W ok R m ((l.drop off).take n) ((cs.drop (off * m)).take (n * m)) := C_take n (C_drop off h)
theorem Rel0_of_X {x : AV} {u : Value} (ha : x.isAgg = false) (h : X W ok R x [u]) : Rel0 W ok R x u := by
  simpa [Rel0, lift, ha] using h
theorem Rel_of_Rel0 {x : AV} {u : Value} (h : Rel0 W ok R x u) : Rel W ok R x u := by
  unfold Rel
  split
  · simp [Rel0, lift, AV.isAgg, X] at h
  · trivial
  · exact h
theorem X_tup {l : List AV} {cs : List Value} : ¬ X W ok R (.tup l) cs := by simp [X]
/-- One cell of a struct or an array: no struct itself. -/
theorem not_agg_of_X1 : ∀ {x : AV} {u : Value}, X W ok R x [u] → x.isAgg = true → ∃ y, x = .agg [y] := by
  intro x u h ha
  cases x <;> simp [AV.isAgg] at ha
  rename_i l
  simp only [X] at h
  have := C_length 1 l _ h
  match l, this with
  | [y], _ => exact ⟨y, rfl⟩
end

/-! ### heaps -/
def locs (ρ : Nat → Option Nat) (H : List Blk) : Nat → Option Loc := fun b =>
  cond (hget H b).live (some ⟨ρ b, (hget H b).len⟩) none

def Pre (cur : Array Value) (ds : List Value) : Prop := ∀ (j : Nat) (u : Value), ds[j]? = some u → cur[j]? = some u

def BlkOk (W : World) (ok : Nat → Prop) (g : Option Nat) : Blk → Prop
  | .dead => True
  | .I ty k l => match g with
    | none => l = []
    | some g => ∃ cur, W.heap[g]? = some (.cells cur (blkTy ty) (markOf ty cur.size)) ∧ Pre cur (l.map (.int k))
  | .A ty e l => (∀ x, x ∈ l → wt e x = true) ∧ match g with
    | none => l = []
    | some g => ∃ cur ds, W.heap[g]? = some (.cells cur (blkTy ty) (markOf ty cur.size)) ∧ Pre cur ds ∧ C W ok noLoc e.sz l ds

structure HeapOk (W : World) (ok : Nat → Prop) (ρ : Nat → Option Nat) (H : List Blk) : Prop where
  blk : ∀ b, BlkOk W ok (ρ b) (hget H b)
  inj : ∀ b b' g, (hget H b).live = true → (hget H b').live = true → ρ b = some g → ρ b' = some g → b = b'
  apart : ∀ b g, (hget H b).live = true → ρ b = some g → ¬ ok g
  lt : ∀ g, ok g → g < W.heap.size

theorem HeapOk.here {W : World} {ok : Nat → Prop} {ρ : Nat → Option Nat} {H : List Blk} (h : HeapOk W ok ρ H) {b g : Nat} (hl : (hget H b).live = true) (hg : ρ b = some g) : ∃ (cur : Array Value) (q : TypeId × (Nat × Nat)), W.heap[g]? = some (.cells cur q.1 q.2) := by
  have := h.blk b
  cases hb : hget H b with
  | dead => simp [hb, Blk.live] at hl
  | I ty k l =>
    simp only [hb, BlkOk, hg] at this
    obtain ⟨cur, h1, _⟩ := this
    exact ⟨cur, (_, _), h1⟩
  | A ty e l =>
    simp only [hb, BlkOk, hg] at this
    obtain ⟨_, cur, ds, h1, _⟩ := this
    exact ⟨cur, (_, _), h1⟩
end Go.RX

/- The operations that make no memory, one after the other. -/
set_option linter.unusedVariables false
set_option linter.unusedSimpArgs false
namespace Go.RX

def Res (P : Program) (W : World) (ok : Nat → Prop) (R : Nat → Option Loc) (m : Sem Value) (v : AV) : Prop := ∃ u, m.run P W = .ok u W ∧ Rel W ok R v u

section
variable {P : Program} {tab : Tab} {W : World} {ok : Nat → Prop} {R : Nat → Option Loc}

theorem res_int {k : IntKind} {n : Int} {m : Sem Value} (h : m.run P W = .ok (.int k n) W) : Res P W ok R m (.int k n) := ⟨_, h, by rw [rel_int]⟩
theorem res_bool {b : Bool} {m : Sem Value} (h : m.run P W = .ok (.bool b) W) : Res P W ok R m (.bool b) := ⟨_, h, by rw [rel_bool]⟩
theorem res_str {s : ByteArray} {m : Sem Value} (h : m.run P W = .ok (.string s) W) : Res P W ok R m (.str s) := ⟨_, h, by rw [rel_str]⟩

theorem binInt_ok {op : BinOp} {t : TypeId} {k : IntKind} {a b : Int} {v : AV} (h : (match op with
      | .add => some (true, .int k (addI k a b))
      | .sub => some (true, .int k (subI k a b))
      | .mul => some (true, .int k (mulI k a b))
      | .quo => some (b != 0, .int k (divI k a b))
      | .rem => some (b != 0, .int k (remI a b))
      | .and => some (true, .int k (andI k a b))
      | .or => some (true, .int k (orI k a b))
      | .xor => some (true, .int k (xorI k a b))
      | .andNot => some (true, .int k (andNotI k a b))
      | .eql => some (true, .bool (a == b))
      | .neq => some (true, .bool (a != b))
      | .lss => some (true, .bool (decide (a < b)))
      | .leq => some (true, .bool (decide (a ≤ b)))
      | .gtr => some (true, .bool (decide (a > b)))
      | .geq => some (true, .bool (decide (a ≥ b)))
      | _ => none) = some (true, v)) : Res P W ok R (binOp op t (.int k a) (.int k b)) v := by
  cases op <;> simp only [Option.some.injEq, Prod.mk.injEq, true_and, bne_iff_ne, ne_eq, reduceCtorEq] at h
  case quo =>
    obtain ⟨hb, rfl⟩ := h
    exact res_int (by simp [binOp, Op.intDiv, hb, divI])
  case rem =>
    obtain ⟨hb, rfl⟩ := h
    exact res_int (by simp [binOp, Op.intDiv, hb, remI])
  case add => subst h; exact res_int (by simp [binOp, Op.intArith, addI])
  case sub => subst h; exact res_int (by simp [binOp, Op.intArith, subI])
  case mul => subst h; exact res_int (by simp [binOp, Op.intArith, mulI])
  case and => subst h; exact res_int (by simp [binOp, Op.intBits, andI])
  case or => subst h; exact res_int (by simp [binOp, Op.intBits, orI])
  case xor => subst h; exact res_int (by simp [binOp, Op.intBits, xorI])
  case andNot => subst h; exact res_int (by simp [binOp, Op.intBits, andNotI])
  all_goals
    subst h
    exact res_bool (by simp [binOp, Op.intCmp])

theorem eqGuard_int (op : BinOp) (t : TypeId) (X' Y' : Operand) (k k' : IntKind) (a b : Int) : (eqGuard op t X' Y' (.int k a) (.int k' b)).run P W = .ok () W := by
  unfold eqGuard
  cases op <;> simp
theorem eqGuard_bool (op : BinOp) (t : TypeId) (X' Y' : Operand) (a b : Bool) : (eqGuard op t X' Y' (.bool a) (.bool b)).run P W = .ok () W := by
  unfold eqGuard
  cases op <;> simp
theorem eqGuard_str (op : BinOp) (t : TypeId) (X' Y' : Operand) (a b : ByteArray) : (eqGuard op t X' Y' (.string a) (.string b)).run P W = .ok () W := by
  unfold eqGuard
  cases op <;> simp
theorem Res.after {m : Sem Unit} {n : Sem Value} {v : AV} (hm : m.run P W = .ok () W) (h : Res P W ok R n v) : Res P W ok R (do m; n) v := by
  obtain ⟨u, hu, hr⟩ := h
  exact ⟨u, by simp [hm, hu], hr⟩

theorem max64 : IntKind.i64.max = 9223372036854775807 := by decide

theorem binStr_ok {op : BinOp} {t : TypeId} {a b : ByteArray} {v : AV} (h : (match op with
    | .add => some (decide (a.size + b.size ≤ 9223372036854775807), AV.str (strCat a b))
    | .eql => some (true, .bool (strEq a b))
    | .neq => some (true, .bool !(strEq a b))
    | .lss => some (true, .bool (Op.bytesLess a.toList b.toList))
    | .leq => some (true, .bool (Op.bytesLess a.toList b.toList || a.toList == b.toList))
    | .gtr => some (true, .bool !(Op.bytesLess a.toList b.toList || a.toList == b.toList))
    | .geq => some (true, .bool !(Op.bytesLess a.toList b.toList))
    | _ => none) = some (true, v)) : Res P W ok R (binOp op t (.string a) (.string b)) v := by
  cases op <;> simp only [Option.some.injEq, Prod.mk.injEq, true_and, reduceCtorEq] at h
  case add =>
    obtain ⟨hb, rfl⟩ := h
    have hb' : a.size + b.size ≤ 9223372036854775807 := of_decide_eq_true hb
    refine res_str ?_
    simp only [binOp, Op.stringOp]
    rw [if_neg (by rw [max64]; omega)]
    rfl
  all_goals
    subst h
    exact res_bool (by simp only [binOp, Op.stringOp]; rfl)

theorem pvUn_ok {op : UnOp} {x v : AV} {u : Value} (h : pvUn op x = some v) (h1 : Rel W ok R x u) : Res P W ok R (Op.unary op u) v := by
  unfold pvUn at h
  split at h
  · rw [rel_int] at h1; subst h1
    simp only [Option.some.injEq] at h; subst h
    exact res_int (by simp [Op.unary, Op.intArith, subI])
  · rw [rel_int] at h1; subst h1
    simp only [Option.some.injEq] at h; subst h
    exact res_int (by simp [Op.unary, Op.intBits, notI, xorI])
  · rw [rel_bool] at h1; subst h1
    simp only [Option.some.injEq] at h; subst h
    exact res_bool (by simp [Op.unary])
  · simp at h

theorem TyOk.und (hT : TabOk P tab) {t : TypeId} {d : TyD} (h : tab t = some d) : ∃ dsc, P.underlying t = some dsc := by
  obtain ⟨z, hz⟩ := hT _ _ h
  have hd := hz.desc
  cases ht : d.tk <;> rw [ht] at hd <;> simp only [TK.desc] at hd
  all_goals first
    | exact ⟨_, hd⟩
    | (obtain ⟨_, hd, _⟩ := hd; exact ⟨_, hd⟩)
    | (obtain ⟨_, hd⟩ := hd; exact ⟨_, hd⟩)
    | (obtain ⟨_, _, _, hd⟩ := hd; exact ⟨_, hd⟩)

theorem pvConv_ok (hT : TabOk P tab) {src dst : TypeId} {x v : AV} {u : Value} (h : pvConv tab src dst x = some v) (h1 : Rel W ok R x u) : Res P W ok R (convert src dst u) v := by
  unfold pvConv at h
  split at h
  · rename_i d0 k _ _ _ _ k' n hs hd
    rw [rel_int] at h1; subst h1
    simp only [Option.some.injEq] at h; subst h
    obtain ⟨ds, hds⟩ := TyOk.und hT hs
    obtain ⟨z, hz⟩ := hT _ _ hd
    have hdd : P.underlying dst = some (.int k) := hz.desc
    exact res_int (by simp [convert, run_underlying hds, run_underlying hdd, Conv.intToInt, cvI])
  · rename_i d0 _ _ _ _ s hs hd
    rw [rel_str] at h1; subst h1
    simp only [Option.some.injEq] at h; subst h
    obtain ⟨ds, hds⟩ := TyOk.und hT hs
    obtain ⟨z, hz⟩ := hT _ _ hd
    have hdd : P.underlying dst = some .string := hz.desc
    exact res_str (by simp [convert, run_underlying hds, run_underlying hdd])
  · simp at h

theorem All2_at {α β : Type} {p : α → β → Prop} : ∀ {l : List α} {bs : List β}, All2 p l bs → ∀ i, (h : i < l.length) → ∃ b, bs[i]? = some b ∧ p l[i] b
  | a :: as, _, ⟨b, bs', rfl, hp, hr⟩, 0, _ => ⟨b, rfl, hp⟩
  | a :: as, _, ⟨b, bs', rfl, hp, hr⟩, i + 1, h => by
    obtain ⟨c, hc, hpc⟩ := All2_at hr i (by simpa using h)
    exact ⟨c, by simpa using hc, by simpa using hpc⟩
theorem All2_length {α β : Type} {p : α → β → Prop} : ∀ {l : List α} {bs : List β}, All2 p l bs → bs.length = l.length
  | [], _, h => by simp only [All2] at h; simp [h]
  | a :: as, _, ⟨b, bs', rfl, hp, hr⟩ => by simp [All2_length hr]

theorem pvExtract_ok {l : List AV} {i : Nat} {u : Value} (h : i < l.length) (h1 : Rel W ok R (.tup l) u) : Res P W ok R (Instr.extract u i) (aget l i) := by
  rw [rel_tup] at h1
  obtain ⟨cs, rfl, ha⟩ := h1
  obtain ⟨b, hb, hr⟩ := All2_at ha i h
  rw [Array.getElem?_toList] at hb
  refine ⟨b, by simp [Instr.extract, hb], Rel_of_Rel0 (by rwa [aget_eq l i h])⟩

theorem blt_lt {a b : Nat} (h : Nat.blt a b = true) : a < b := Nat.le_of_ble_eq_true h

theorem Option_cond {α : Type} {c : Bool} {x : Option α} {v : α} (h : cond c x none = some v) : c = true ∧ x = some v := by cases c <;> simp_all
theorem part_ok (hT : TabOk P tab) {ft off : Nat} {d : TyD} (hd : tab ft = some d) {l : List AV} {cs : Array Value} (hC : C W ok R 1 l cs.toList) {v : AV}
    (h : cond d.tk.isAgg (cond (Nat.ble (off + d.sz) l.length) (some (AV.agg ((l.drop off).take d.sz))) none) (cond (Nat.blt off l.length && !(aget l off).isAgg) (some (aget l off)) none) = some v) :
    Res P W ok R (part ft cs off) v := by
  obtain ⟨z, hz⟩ := hT _ _ hd
  have hlen := C_length 1 l _ hC
  cases ha : d.tk.isAgg
  · simp only [ha, cond_false] at h
    cases hlt : (Nat.blt off l.length && !(aget l off).isAgg)
    · simp [hlt] at h
    · simp only [hlt, cond_true, Option.some.injEq] at h
      subst h
      rw [Bool.and_eq_true, Bool.not_eq_true'] at hlt
      have hlt' : off < l.length := blt_lt hlt.1
      obtain ⟨u, hu, hx⟩ := C_one hC off hlt'
      rw [Array.getElem?_toList] at hu
      exact ⟨u, by simp [part, hz.isAgg W, ha, hu], Rel_of_Rel0 (Rel0_of_X hlt.2 hx)⟩
  · simp only [ha, cond_true] at h
    cases hle : Nat.ble (off + d.sz) l.length
    · simp [hle] at h
    · simp only [hle, cond_true, Option.some.injEq] at h
      subst h
      have hle' : off + d.sz ≤ l.length := Nat.le_of_ble_eq_true hle
      refine ⟨.agg (cs.extract off (off + d.sz)), by simp [part, hz.isAgg W, ha, hz.sizeOf W], ?_⟩
      rw [rel_agg]
      refine ⟨_, rfl, ?_⟩
      have := C_sub off d.sz hC
      rw [Nat.mul_one, Nat.mul_one] at this
      rw [Array.toList_extract]
      simpa [List.extract_eq_take_drop, Nat.add_sub_cancel_left] using this

theorem aget_X {a : List AV} {cs : Array Value} (hC : C W ok R 1 a cs.toList) {off : Nat} {y : AV} (he : aget a off = y) (hy : y ≠ .dead) (hg : y.isAgg = false) : ∃ u, cs[off]? = some u ∧ Rel W ok R y u := by
  have hlt : off < a.length := by
    refine Nat.lt_of_not_le fun hle => hy ?_
    rw [← he]
    clear he hC
    induction a generalizing off with
    | nil => rfl
    | cons x xs ih => cases off with
      | zero => simp at hle
      | succ n => exact ih (by simpa using hle)
  obtain ⟨u, hu, hx⟩ := C_one hC off hlt
  rw [Array.getElem?_toList] at hu
  subst he
  exact ⟨u, hu, Rel_of_Rel0 (Rel0_of_X hg hx)⟩
theorem part_run (hT : TabOk P tab) {ft off : Nat} {d : TyD} (hd : tab ft = some d) (ha : d.tk.isAgg = false) {cs : Array Value} {u : Value} (hu : cs[off]? = some u) : (part ft cs off).run P W = .ok u W := by
  obtain ⟨z, hz⟩ := hT _ _ hd
  simp [part, hz.isAgg W, ha, hu]
theorem eqFs_ok (hT : TabOk P tab) {cs ds : Array Value} {a b : List AV} (ha : C W ok R 1 a cs.toList) (hb : C W ok R 1 b ds.toList) (n : Nat) : ∀ {fs : List Field} {v : Bool}, (fs.all fun f => f.name != "_") = true → eqFs tab (fs.map fun f => (f.type, f.offset)) a b = some v → (Op.eqFields (n + 1) cs ds fs).run P W = .ok v W
  | [], v, _, h => by
    simp only [List.map_nil, eqFs, Option.some.injEq] at h
    simp [Op.eqFields, ← h]
  | f :: fs, v, hn, h => by
    simp only [List.all_cons, Bool.and_eq_true, bne_iff_ne] at hn
    simp only [List.map_cons, eqFs] at h
    split at h
    · rename_i d hd
      have hda := hd
      obtain ⟨z, hz⟩ := hT _ _ hd
      have hdd := hz.desc
      split at h
      · rename_i k hk
        rw [hk] at hdd
        split at h
        · rename_i k1 x k2 y e1 e2
          obtain ⟨hks, h⟩ := Option_cond h
          simp only [Option.map_eq_some_iff] at h
          obtain ⟨r, hr, rfl⟩ := h
          obtain ⟨u1, q1, r1⟩ := aget_X ha e1 (by simp) rfl
          obtain ⟨u2, q2, r2⟩ := aget_X hb e2 (by simp) rfl
          rw [rel_int] at r1 r2
          subst r1 r2
          obtain rfl := ksame_eq hks
          have ih := eqFs_ok hT ha hb n hn.2 hr
          have p1 := part_run (W := W) hT hda (by rw [hk]; rfl) q1
          have p2 := part_run (W := W) hT hda (by rw [hk]; rfl) q2
          simp only [Op.eqFields, ne_eq, hn.1, not_false_eq_true, if_true, Sem.run_bind, p1, p2, Result.andThen_ok, run_equalIn_int _ n _ _ _ _ _ hdd]
          cases hxy : (x == y) <;> simp [ih]
        · cases h
      · rename_i hk
        rw [hk] at hdd
        split at h
        · rename_i x y e1 e2
          simp only [Option.map_eq_some_iff] at h
          obtain ⟨r, hr, rfl⟩ := h
          obtain ⟨u1, q1, r1⟩ := aget_X ha e1 (by simp) rfl
          obtain ⟨u2, q2, r2⟩ := aget_X hb e2 (by simp) rfl
          rw [rel_bool] at r1 r2
          subst r1 r2
          have ih := eqFs_ok hT ha hb n hn.2 hr
          have p1 := part_run (W := W) hT hda (by rw [hk]; rfl) q1
          have p2 := part_run (W := W) hT hda (by rw [hk]; rfl) q2
          simp only [Op.eqFields, ne_eq, hn.1, not_false_eq_true, if_true, Sem.run_bind, p1, p2, Result.andThen_ok, run_equalIn_bool' _ n _ _ _ hdd]
          cases hxy : (x == y) <;> simp [ih]
        · cases h
      · rename_i hk
        rw [hk] at hdd
        split at h
        · rename_i x y e1 e2
          simp only [Option.map_eq_some_iff] at h
          obtain ⟨r, hr, rfl⟩ := h
          obtain ⟨u1, q1, r1⟩ := aget_X ha e1 (by simp) rfl
          obtain ⟨u2, q2, r2⟩ := aget_X hb e2 (by simp) rfl
          rw [rel_str] at r1 r2
          subst r1 r2
          have ih := eqFs_ok hT ha hb n hn.2 hr
          have p1 := part_run (W := W) hT hda (by rw [hk]; rfl) q1
          have p2 := part_run (W := W) hT hda (by rw [hk]; rfl) q2
          simp only [Op.eqFields, ne_eq, hn.1, not_false_eq_true, if_true, Sem.run_bind, p1, p2, Result.andThen_ok, run_equalIn_string _ n _ _ _ hdd]
          cases hxy : (x.toList == y.toList) <;> simp [ih, strEq, hxy]
        · cases h
      · cases h
    · cases h

theorem equal_run {t : TypeId} {u1 u2 : Value} {v : Bool} (h : ∀ d : Nat, (Op.equalIn (d + 2) t u1 u2).run P W = .ok v W) : (Op.equal t u1 u2).run P W = .ok v W := h 9998
def eqNil : TypeDesc → Value → Value → Option Bool
  | .interface _, .nilIface, .nilIface => some true
  | .interface _, .iface _ _, .nilIface => some false
  | .interface _, .nilIface, .iface _ _ => some false
  | .pointer _, .pointer none, .pointer none => some true
  | .pointer _, .pointer (some _), .pointer none => some false
  | .func _ _ _, .nilFunc, .nilFunc => some true
  | .func _ _ _, .func _ _ _, .nilFunc => some false
  | _, _, _ => none
set_option maxHeartbeats 2000000 in
theorem eq_run {t : TypeId} {u1 u2 : Value} {v : Bool} {dsc : TypeDesc} (hm : P.underlying t = some dsc) (h : eqNil dsc u1 u2 = some v) : (Op.equal t u1 u2).run P W = .ok v W := by
  refine equal_run fun d => ?_
  unfold Op.equalIn
  rw [Sem.run_bind, run_underlying hm, Result.andThen_ok]
  unfold eqNil at h
  split at h <;> cases h <;> rfl
def eqNilG : Value → Value → Bool
  | .nilIface, .nilIface => false
  | .agg _, .agg _ => false
  | _, _ => true
theorem eqGuard_nil {op : BinOp} {t : TypeId} {X' Y' : Operand} {u1 u2 : Value} (h : eqNilG u1 u2 = true) : (eqGuard op t X' Y' u1 u2).run P W = .ok () W := by
  unfold eqGuard
  unfold eqNilG at h
  split at h
  · cases h
  · cases h
  · rename_i n1 n2
    split <;> (try simp) <;> split <;> simp_all
theorem eqGuard_const {op : BinOp} {t : TypeId} {X' Y' : Operand} (h : (isConst X' || isConst Y') = true) : (eqGuard op t X' Y' .nilIface .nilIface).run P W = .ok () W := by
  unfold eqGuard
  cases X' <;> cases Y' <;> simp [isConst] at h <;> cases op <;> simp

theorem pvEq_ok (hT : TabOk P tab) {c : Bool} {op : BinOp} {t : TypeId} {x y : AV} {v : Bool} {X' Y' : Operand} {u1 u2 : Value} (hc : c = true → (isConst X' || isConst Y') = true) (h : pvEq tab c t x y = some v) (h1 : Rel W ok R x u1) (h2 : Rel W ok R y u2) :
    (eqGuard op t X' Y' u1 u2).run P W = .ok () W ∧ (Op.equal t u1 u2).run P W = .ok v W ∧ binOp .eql t u1 u2 = (do pure (.bool (← Op.equal t u1 u2))) ∧ binOp .neq t u1 u2 = (do pure (.bool (!(← Op.equal t u1 u2)))) := by
  unfold pvEq at h
  split at h
  · rename_i d hd
    obtain ⟨z, hz⟩ := hT _ _ hd
    have hdd := hz.desc
    split at h
    · rename_i fs hk
      rw [hk] at hdd
      split at h
      · rename_i a b
        obtain ⟨he, h⟩ := Option_cond h
        obtain ⟨q1, q2, q3⟩ := hz.eqs he
        obtain ⟨fields, hf, rfl⟩ := hdd
        rw [rel_agg] at h1 h2
        obtain ⟨cs, rfl, hC1⟩ := h1
        obtain ⟨ds, rfl, hC2⟩ := h2
        have hfo : P.fieldsOf t = fields := by simp [Program.fieldsOf, hf]
        rw [hfo] at q3
        have := eqFs_ok hT hC1 hC2 9998 q3 h
        refine ⟨run_eqGuard_agg _ _ _ _ _ _ _ q1, ?_, rfl, rfl⟩
        show (Op.equalIn 10000 t (.agg cs) (.agg ds)).run P W = _
        rw [run_equalIn_struct W 9999 t cs ds (by rw [hfo]; exact hf) q2, hfo]
        exact this
      · cases h
    · rename_i hk
      rw [hk] at hdd
      obtain ⟨ms, hm⟩ := hdd
      split at h
      · obtain ⟨he, h⟩ := Option_cond h
        cases h
        have e1 : u1 = .nilIface := by simpa [Rel, Rel0, lift, AV.isAgg, X] using h1
        have e2 : u2 = .nilIface := by simpa [Rel, Rel0, lift, AV.isAgg, X] using h2
        subst e1 e2
        exact ⟨eqGuard_const (hc he), eq_run hm rfl, rfl, rfl⟩
      · cases h
        obtain ⟨w1, rfl⟩ : ∃ w1, u1 = .iface _ w1 := by
          simp only [Rel, Rel0, lift, AV.isAgg, X] at h1
          obtain ⟨y, hy, _⟩ := h1
          exact ⟨y, by simpa using hy⟩
        have e2 : u2 = .nilIface := by simpa [Rel, Rel0, lift, AV.isAgg, X] using h2
        subst e2
        exact ⟨eqGuard_nil rfl, eq_run hm rfl, rfl, rfl⟩
      · cases h
        obtain ⟨w1, rfl⟩ : ∃ w1, u2 = .iface _ w1 := by
          simp only [Rel, Rel0, lift, AV.isAgg, X] at h2
          obtain ⟨y, hy, _⟩ := h2
          exact ⟨y, by simpa using hy⟩
        have e2 : u1 = .nilIface := by simpa [Rel, Rel0, lift, AV.isAgg, X] using h1
        subst e2
        exact ⟨eqGuard_nil rfl, eq_run hm rfl, rfl, rfl⟩
      · cases h
    · rename_i hk
      rw [hk] at hdd
      obtain ⟨e, hm⟩ := hdd
      split at h
      · cases h
        have e1 : u1 = .pointer none := by simpa [Rel, Rel0, lift, AV.isAgg, X] using h1
        have e2 : u2 = .pointer none := by simpa [Rel, Rel0, lift, AV.isAgg, X] using h2
        subst e1 e2
        exact ⟨eqGuard_nil rfl, eq_run hm rfl, rfl, rfl⟩
      · cases h
        obtain ⟨w1, rfl⟩ : ∃ w1, u1 = .pointer (some w1) := by
          simp only [Rel, Rel0, lift, AV.isAgg, X] at h1
          obtain ⟨y, _, hy, _⟩ := h1
          exact ⟨y, by simpa using hy⟩
        have e2 : u2 = .pointer none := by simpa [Rel, Rel0, lift, AV.isAgg, X] using h2
        subst e2
        exact ⟨eqGuard_nil rfl, eq_run hm rfl, rfl, rfl⟩
      · cases h
        obtain ⟨w1, rfl⟩ : ∃ w1, u1 = .pointer (some w1) := by
          simp only [Rel, Rel0, lift, AV.isAgg, X] at h1
          obtain ⟨_, _, _, _, hy, _⟩ := h1
          exact ⟨_, by simpa using hy⟩
        have e2 : u2 = .pointer none := by simpa [Rel, Rel0, lift, AV.isAgg, X] using h2
        subst e2
        exact ⟨eqGuard_nil rfl, eq_run hm rfl, rfl, rfl⟩
      · cases h
    · rename_i hk
      rw [hk] at hdd
      obtain ⟨e1, e2, e3, hm⟩ := hdd
      split at h
      · cases h
        have e1 : u1 = .nilFunc := by simpa [Rel, Rel0, lift, AV.isAgg, X] using h1
        have e2 : u2 = .nilFunc := by simpa [Rel, Rel0, lift, AV.isAgg, X] using h2
        subst e1 e2
        exact ⟨eqGuard_nil rfl, eq_run hm rfl, rfl, rfl⟩
      · cases h
        obtain ⟨f1, e1⟩ : ∃ f, u1 = .func (.func f) #[] #[] := ⟨_, by simpa [Rel, Rel0, lift, AV.isAgg, X] using h1⟩
        have e2 : u2 = .nilFunc := by simpa [Rel, Rel0, lift, AV.isAgg, X] using h2
        subst e1 e2
        exact ⟨eqGuard_nil rfl, eq_run hm rfl, rfl, rfl⟩
      · cases h
        obtain ⟨a, b, c, rfl⟩ : ∃ a b c, u1 = .func a b c := by
          simp only [Rel, Rel0, lift, AV.isAgg, X] at h1
          obtain ⟨_, hy, _⟩ := h1
          exact ⟨_, _, _, by simpa using hy⟩
        have e2 : u2 = .nilFunc := by simpa [Rel, Rel0, lift, AV.isAgg, X] using h2
        subst e2
        exact ⟨eqGuard_nil rfl, eq_run hm rfl, rfl, rfl⟩
      · cases h
    · cases h
  · cases h

theorem pvBin0_ok (hT : TabOk P tab) {c : Bool} {op : BinOp} {t : TypeId} {x y v : AV} {X' Y' : Operand} {u1 u2 : Value} (hc : c = true → (isConst X' || isConst Y') = true) (h : pvBin0 tab c op t x y = some (true, v)) (h1 : Rel W ok R x u1) (h2 : Rel W ok R y u2) :
    Res P W ok R (do eqGuard op t X' Y' u1 u2; binOp op t u1 u2) v := by
  unfold pvBin0 at h
  split at h
  · rename_i k a k' b
    rw [rel_int] at h1 h2
    subst h1 h2
    refine Res.after (eqGuard_int ..) ?_
    split at h
    · simp only [Option.some.injEq, Prod.mk.injEq, decide_eq_true_eq] at h
      obtain ⟨hb, rfl⟩ := h
      exact res_int (by simp [binOp, Op.shift, Int.not_lt.2 hb, shlI])
    · simp only [Option.some.injEq, Prod.mk.injEq, decide_eq_true_eq] at h
      obtain ⟨hb, rfl⟩ := h
      exact res_int (by simp [binOp, Op.shift, Int.not_lt.2 hb, shrI])
    · cases hk : ksame k k'
      · simp [hk] at h
      · obtain rfl := ksame_eq hk
        rw [hk, cond_true] at h
        exact binInt_ok h
  · rename_i a b
    rw [rel_bool] at h1 h2
    subst h1 h2
    refine Res.after (eqGuard_bool ..) ?_
    split at h
    · rename_i ht
      obtain ⟨z, hz⟩ := hT _ _ ht
      have hd : P.underlying t = some .bool := hz.desc
      split at h
      · simp only [Option.some.injEq, Prod.mk.injEq, true_and] at h
        subst h
        exact res_bool (run_eql_bool _ _ _ _ hd)
      · simp only [Option.some.injEq, Prod.mk.injEq, true_and] at h
        subst h
        exact res_bool (run_neq_bool _ _ _ _ hd)
      · simp at h
    · simp at h
  · rename_i a b
    rw [rel_str] at h1 h2
    subst h1 h2
    exact Res.after (eqGuard_str ..) (binStr_ok h)
  · rename_i n1 n2 n3
    split at h
    · simp only [Option.map_eq_some_iff, Prod.mk.injEq, true_and] at h
      obtain ⟨b, hb, rfl⟩ := h
      obtain ⟨q1, q2⟩ := pvEq_ok hT (X' := X') (Y' := Y') hc hb h1 h2
      exact Res.after q1 (res_bool (by rw [q2.2.1]; simp [q2.1]))
    · simp only [Option.map_eq_some_iff, Prod.mk.injEq, true_and] at h
      obtain ⟨b, hb, rfl⟩ := h
      obtain ⟨q1, q2⟩ := pvEq_ok hT (X' := X') (Y' := Y') hc hb h1 h2
      exact Res.after q1 (res_bool (by rw [q2.2.2]; simp [q2.1]))
    · simp at h
theorem err_nil {e : Option (Int × Int)} {u : Value} (h : Rel W ok R (.err e) u) : (e = none ∧ Rel W ok R .nilI u) ∨ (e.isSome = true ∧ ∃ y, u = .iface errT y) := by
  match e, h with
  | none, h => exact .inl ⟨rfl, by simpa [Rel, Rel0, lift, AV.isAgg, X] using h⟩
  | some (a, c), h =>
    simp only [Rel, Rel0, lift, AV.isAgg, X] at h
    obtain ⟨ad, hu, _⟩ := h
    exact .inr ⟨rfl, _, by simpa using hu⟩
theorem errEq_ok (hT : TabOk P tab) {c : Bool} {op : BinOp} {t : TypeId} {e : Option (Int × Int)} {X' Y' : Operand} {u1 u2 : Value} (hc : c = true → (isConst X' || isConst Y') = true) (hce : (cond c true (errSome e)) = true) (hd : ∃ d, tab t = some d ∧ d.tk = .iface) (h1 : Rel W ok R (.err e) u1) (h2 : Rel W ok R .nilI u2) :
    (eqGuard op t X' Y' u1 u2).run P W = .ok () W ∧ (Op.equal t u1 u2).run P W = .ok (!(errSome e)) W ∧ binOp .eql t u1 u2 = (do pure (.bool (← Op.equal t u1 u2))) ∧ binOp .neq t u1 u2 = (do pure (.bool (!(← Op.equal t u1 u2)))) := by
  obtain ⟨d, hd, hk⟩ := hd
  rcases err_nil h1 with ⟨rfl, h1'⟩ | ⟨hs, y, rfl⟩
  · have hc' : c = true := by simpa [errSome] using hce
    refine pvEq_ok hT hc ?_ (x := .nilI) (y := .nilI) (by assumption) h2
    unfold pvEq
    rw [hd]
    simp only [hk]
    simp [hc', errSome]
  · obtain ⟨z, hz⟩ := hT _ _ hd
    have hdd := hz.desc
    rw [hk] at hdd
    obtain ⟨ms, hm⟩ := hdd
    have e2 : u2 = .nilIface := by simpa [Rel, Rel0, lift, AV.isAgg, X] using h2
    subst e2
    have : (!(errSome e)) = false := by cases e <;> simp [errSome] at hs ⊢
    rw [this]
    exact ⟨eqGuard_nil rfl, eq_run hm rfl, rfl, rfl⟩
theorem pvBin_ok (hT : TabOk P tab) {c : Bool} {op : BinOp} {t : TypeId} {x y v : AV} {X' Y' : Operand} {u1 u2 : Value} (hc : c = true → (isConst X' || isConst Y') = true) (h : pvBin tab c op t x y = some (true, v)) (h1 : Rel W ok R x u1) (h2 : Rel W ok R y u2) :
    Res P W ok R (do eqGuard op t X' Y' u1 u2; binOp op t u1 u2) v := by
  unfold pvBin at h
  split at h
  · rename_i e
    split at h
    · rename_i ht
      split at h
      · simp only [Option.some.injEq, Prod.mk.injEq] at h
        obtain ⟨h, rfl⟩ := h
        obtain ⟨q1, q2⟩ := errEq_ok hT (X' := X') (Y' := Y') (op := .eql) hc h ⟨_, ht, rfl⟩ h1 h2
        exact Res.after q1 (res_bool (by rw [q2.2.1]; simp [q2.1]))
      · simp only [Option.some.injEq, Prod.mk.injEq] at h
        obtain ⟨h, rfl⟩ := h
        obtain ⟨q1, q2⟩ := errEq_ok hT (X' := X') (Y' := Y') (op := .neq) hc h ⟨_, ht, rfl⟩ h1 h2
        exact Res.after q1 (res_bool (by rw [q2.2.2]; simp [q2.1]))
      · simp at h
    · simp at h
  · exact pvBin0_ok hT hc h h1 h2

end
end Go.RX

/- The operations that make no memory: parts, indexes, cuts. -/
set_option linter.unusedVariables false
set_option linter.unusedSimpArgs false
namespace Go.RX
section
variable {P : Program} {tab : Tab} {W : World} {ok : Nat → Prop} {ρ : Nat → Option Nat} {H : List Blk} {R : Nat → Option Loc}

theorem fields_at {fields : Array Field} {fs : List (TypeId × Nat)} (h : fields.toList.map (fun f => (f.type, f.offset)) = fs) {i ft off : Nat} (hi : fs[i]? = some (ft, off)) :
    ∃ f, fields[i]? = some f ∧ f.type = ft ∧ f.offset = off := by
  subst h
  rw [List.getElem?_map] at hi
  obtain ⟨f, hf, he⟩ := Option.map_eq_some_iff.1 hi
  simp only [Prod.mk.injEq] at he
  exact ⟨f, by rw [← Array.getElem?_toList]; exact hf, he⟩

theorem pvField_ok (hT : TabOk P tab) {t f : Nat} {x v : AV} {u : Value} (h : pvField tab t x f = some v) (h1 : Rel W ok R x u) : Res P W ok R (Instr.field t u f) v := by
  unfold pvField at h
  split at h
  · rename_i d fs _ _ _ _ l ht
    obtain ⟨z, hz⟩ := hT _ _ ht
    obtain ⟨fields, hd, hf⟩ : ∃ fields, P.underlying t = some (.struct fields) ∧ fields.toList.map (fun f => (f.type, f.offset)) = fs := hz.desc
    rw [rel_agg] at h1
    obtain ⟨cs, rfl, hC⟩ := h1
    split at h
    · rename_i ft off hfo
      obtain ⟨fl, hfl, rfl, rfl⟩ := fields_at hf hfo
      split at h
      · rename_i d' hd'
        obtain ⟨u, hu, hr⟩ := part_ok hT hd' hC h
        exact ⟨u, by simp [Instr.field, run_underlying hd, hfl, asAgg, hu], hr⟩
      · simp at h
    · simp at h
  · simp at h

theorem inRange_iff {i : Int} {n : Nat} : inRange i n = true ↔ 0 ≤ i ∧ i < n := by simp [inRange]

theorem allInt_at {k : IntKind} : ∀ {l : List AV}, allInt k l = true → ∀ i, i < l.length → aget l i = .int k (aget l i).toInt
  | [], _, i, hi => by simp at hi
  | .int k' n :: xs, h, 0, _ => by
    simp only [allInt, Bool.and_eq_true] at h
    simp [aget, AV.toInt, ksame_eq h.1]
  | .int k' n :: xs, h, i + 1, hi => by
    simp only [allInt, Bool.and_eq_true] at h
    simpa [aget] using allInt_at h.2 i (by simpa using hi)

theorem bytes_at (s : ByteArray) (i : Int) (h0 : 0 ≤ i) (h1 : i < s.size) : ∃ b, s[i.toNat]? = some b ∧ (b.toNat : Int) = byteAt s i := by
  have h : i.toNat < s.size := by omega
  refine ⟨s[i.toNat], by simp [h], ?_⟩
  unfold byteAt
  have h' : i.toNat < s.data.toList.length := by rw [Array.length_toList]; exact h
  simp [List.getD_eq_getElem?_getD, List.getElem?_eq_getElem h']
  rfl

theorem pvIndex_ok (hT : TabOk P tab) {t : Nat} {x ix v : AV} {u ui : Value} (h : pvIndex tab t x ix = some (true, v)) (h1 : Rel W ok R x u) (h2 : Rel W ok R ix ui) : Res P W ok R (Instr.index t u ui) v := by
  unfold pvIndex at h
  split at h
  · rename_i ki i
    rw [rel_int] at h2; subst h2
    split at h
    · rename_i s ht
      obtain ⟨z, hz⟩ := hT _ _ ht
      have hd : P.underlying t = some .string := hz.desc
      rw [rel_str] at h1; subst h1
      simp only [Option.some.injEq, Prod.mk.injEq, inRange_iff] at h
      obtain ⟨⟨h0, h1⟩, rfl⟩ := h
      obtain ⟨b, hb, he⟩ := bytes_at s i h0 h1
      rw [← he]
      exact res_int (by simp [Instr.index, asIntOf, run_underlying hd, h0, hb])
    · rename_i d n e _ _ _ _ l ht
      obtain ⟨z, hz⟩ := hT _ _ ht
      have hd : P.underlying t = some (.array n e) := hz.desc
      rw [rel_agg] at h1
      obtain ⟨cs, rfl, hC⟩ := h1
      split at h
      · rename_i k _ _ _ hte
        obtain ⟨ze, hze⟩ := hT _ _ hte
        cases hc : (allInt k l && Nat.beq l.length n)
        · simp [hc] at h
        · simp only [hc, cond_true, Option.some.injEq, Prod.mk.injEq, inRange_iff] at h
          obtain ⟨⟨h0, h1⟩, rfl⟩ := h
          rw [Bool.and_eq_true] at hc
          have hn : l.length = n := Nat.eq_of_beq_eq_true hc.2
          have hlt : i.toNat < l.length := by omega
          obtain ⟨y, hy, hx⟩ := C_one hC _ hlt
          rw [Array.getElem?_toList] at hy
          rw [allInt_at hc.1 _ hlt] at hx
          simp only [X, List.cons.injEq, and_true] at hx
          subst hx
          refine res_int ?_
          simp [Instr.index, asIntOf, run_underlying hd, h0, h1, part, hze.isAgg, hze.sizeOf, TK.isAgg, hy]
      · rename_i d _ hte
        obtain ⟨ze, hze⟩ := hT _ _ hte
        cases hc : (d.tk.isAgg && Nat.beq (n * d.sz) l.length)
        · simp [hc] at h
        · simp only [hc, cond_true, Option.some.injEq, Prod.mk.injEq, inRange_iff] at h
          obtain ⟨⟨h0, h1⟩, rfl⟩ := h
          rw [Bool.and_eq_true] at hc
          have hn : n * d.sz = l.length := Nat.eq_of_beq_eq_true hc.2
          have hle : i.toNat * d.sz + d.sz ≤ l.length := by
            rw [← hn, ← Nat.succ_mul]
            exact Nat.mul_le_mul_right _ (by omega)
          have hb : Nat.ble (i.toNat * d.sz + d.sz) l.length = true := Nat.ble_eq_true_of_le hle
          obtain ⟨u, hu, hr⟩ := part_ok (off := i.toNat * d.sz) hT hte hC (v := .agg ((l.drop (i.toNat * d.sz)).take d.sz)) (by rw [hc.1, hb]; rfl)
          refine ⟨u, ?_, hr⟩
          simp [Instr.index, asIntOf, run_underlying hd, h0, h1, hze.sizeOf, hu]
      · simp at h
    · simp at h
  · simp at h

theorem locs_some {b : Nat} {loc : Loc} (h : locs ρ H b = some loc) : (hget H b).live = true ∧ loc.g = ρ b ∧ loc.n = (hget H b).len := by
  unfold locs at h
  cases hl : (hget H b).live
  · simp [hl] at h
  · simp only [hl, cond_true, Option.some.injEq] at h
    subst h
    exact ⟨rfl, rfl, rfl⟩
theorem locs_live {b : Nat} (h : (hget H b).live = true) : locs ρ H b = some ⟨ρ b, (hget H b).len⟩ := by simp [locs, h]

theorem add_at (ad : Addr) (j m : Nat) : (ad.add j).add m = ad.add (j + m) := by
  unfold Addr.add
  by_cases hj : j = 0 <;> by_cases hm : m = 0 <;> simp [hj, hm, Nat.add_assoc]

theorem At_sub {ad : Addr} {cs : List Value} (h : At W ad cs) (i m : Nat) : At W (ad.add i) ((cs.drop i).take m) := by
  intro j u hu
  rw [add_at]
  apply h
  rw [List.getElem?_take] at hu
  split at hu
  · rwa [List.getElem?_drop] at hu
  · simp at hu

theorem block_add (ad : Addr) (j : Nat) : (ad.add j).block = ad.block := by unfold Addr.add; split <;> rfl

theorem mem_aget {l : List AV} {i : Nat} (h : i < l.length) : aget l i ∈ l := aget_mem l i h

theorem pvIndexAddr_ok (hT : TabOk P tab) {t : Nat} {x ix v : AV} {u ui : Value} (h : pvIndexAddr tab H t x ix = some (true, v)) (h1 : Rel W ok (locs ρ H) x u) (h2 : Rel W ok (locs ρ H) ix ui) : Res P W ok (locs ρ H) (Instr.indexAt t u ui) v := by
  unfold pvIndexAddr at h
  split at h
  · rename_i ki i
    rw [rel_int] at h2; subst h2
    split at h
    · rename_i e _ _ _ _ ht
      obtain ⟨z, hz⟩ := hT _ _ ht
      have hd : P.underlying t = some (.slice e) := hz.desc
      split at h
      · rename_i d hd'
        obtain ⟨ze, hze⟩ := hT _ _ hd'
        have hrun : ∀ (a : Addr) (n c : Nat), 0 ≤ i → i < n → (Instr.indexAt t (.slice (some a) n c) (.int ki i)).run P W = .ok (.pointer (some (a.add (i.toNat * d.sz)))) W := by
          intro a n c h0 h1
          simp [Instr.indexAt, asIntOf, run_underlying hd, h0, h1, hze.sizeOf]
        split at h
        · rename_i k l
          cases hc : Nat.beq d.sz 1
          · simp [hc] at h
          · have hs : d.sz = 1 := Nat.eq_of_beq_eq_true hc
            simp only [hc, cond_true, Option.some.injEq, Prod.mk.injEq, inRange_iff] at h
            obtain ⟨⟨h0, hn⟩, rfl⟩ := h
            rw [rel_ints] at h1
            obtain ⟨A, c, rfl, hlc, hat⟩ := h1
            rcases hat with rfl | ⟨ad, rfl, hok, hat⟩
            · simp at hn; omega
            · refine ⟨_, hrun ad _ c h0 hn, ?_⟩
              rw [rel_elem]
              have hlt : i.toNat < l.length := by omega
              refine ⟨_, [.int k (rdI l i)], rfl, by rwa [block_add], ?_, by simp [X]⟩
              intro j u hu
              cases j with
              | succ j => simp at hu
              | zero =>
                simp only [List.getElem?_cons_zero, Option.some.injEq] at hu
                subst hu
                rw [add_at, hs, Nat.mul_one, Nat.add_zero]
                apply hat
                rw [List.getElem?_map, List.getElem?_eq_getElem hlt]
                simp [rdI, List.getD_eq_getElem?_getD, List.getElem?_eq_getElem hlt]
        · rename_i et l
          cases hc : Nat.beq d.sz et.sz
          · simp [hc] at h
          · have hs : d.sz = et.sz := Nat.eq_of_beq_eq_true hc
            simp only [hc, cond_true, Option.some.injEq, Prod.mk.injEq, inRange_iff] at h
            obtain ⟨⟨h0, hn⟩, rfl⟩ := h
            rw [rel_list] at h1
            obtain ⟨A, c, rfl, hlc, he, hat⟩ := h1
            rcases hat with rfl | ⟨ad, ds, rfl, hok, hat, hlen, hC⟩
            · simp at hn; omega
            · refine ⟨_, hrun ad _ c h0 hn, ?_⟩
              rw [rel_elem]
              have hlt : i.toNat < l.length := by omega
              refine ⟨_, (ds.drop (i.toNat * et.sz)).take et.sz, rfl, by rwa [block_add], ?_, ?_⟩
              · rw [hs]; exact At_sub hat _ _
              · rw [eta_wt _ _ (he _ (mem_aget hlt))]
                exact C_at _ _ _ hC _ hlt
        · rename_i b sz
          cases hc : Nat.beq d.sz sz
          · simp [hc] at h
          · have hs : d.sz = sz := Nat.eq_of_beq_eq_true hc
            simp only [hc, cond_true, Option.some.injEq, Prod.mk.injEq, inRange_iff] at h
            obtain ⟨⟨h0, hn⟩, rfl⟩ := h
            rw [rel_vec] at h1
            obtain ⟨loc, hloc, h1⟩ := h1
            obtain ⟨hlive, hg, hlen⟩ := locs_some hloc
            rcases h1 with ⟨_, hn0, _⟩ | ⟨g, c, T, m, hg', rfl, hc', hsh, hm⟩
            · omega
            · refine ⟨_, hrun _ _ c h0 (by omega), ?_⟩
              rw [rel_ptr]
              refine ⟨loc, g, hloc, hg', ?_, by omega⟩
              simp only [Addr.add, hs]
              by_cases hz0 : i.toNat * sz = 0 <;> simp [hz0]
        · rename_i b sz off len cap
          cases hc : Nat.beq d.sz sz
          · simp [hc] at h
          · have hs : d.sz = sz := Nat.eq_of_beq_eq_true hc
            simp only [hc, cond_true, Option.some.injEq, Prod.mk.injEq, inRange_iff] at h
            obtain ⟨⟨h0, hn⟩, rfl⟩ := h
            rw [rel_ref] at h1
            rcases h1 with ⟨hl0, _, _⟩ | ⟨loc, g, c, o, T, m, hloc, hg, rfl, hlc, hcap, ho, hsh, hm, hln⟩
            · omega
            · refine ⟨_, hrun _ _ c h0 hn, ?_⟩
              rw [rel_ptr]
              refine ⟨loc, g, hloc, hg, ?_, by omega⟩
              rw [ho (by omega), hs]
              simp only [Addr.add, Nat.add_mul, Nat.add_zero]
              by_cases hz0 : i.toNat * sz = 0 <;> simp [hz0]
        · simp at h
      · simp at h
    · rename_i n e _ _ _ _ ht
      obtain ⟨z, hz⟩ := hT _ _ ht
      have hd : P.underlying t = some (.array n e) := hz.desc
      split at h
      · rename_i d hd'
        obtain ⟨ze, hze⟩ := hT _ _ hd'
        split at h
        · rename_i b sz j o
          have hrun : ∀ (g : Nat), 0 ≤ i → i < n → (Instr.indexAt t (.pointer (some ⟨g, j * sz + o, none⟩)) (.int ki i)).run P W = .ok (.pointer (some ⟨g, j * sz + (o + i.toNat * d.sz), none⟩)) W := by
            intro g h0 hn
            simp only [Instr.indexAt, asIntOf, Sem.run_bind, Sem.run_pure, Result.andThen_ok, run_underlying hd, Instr.sureAddr, h0, hn, true_and, and_self, if_true, hze.sizeOf]
            simp only [Addr.add]
            by_cases hz0 : i.toNat * d.sz = 0 <;> simp [hz0, Nat.add_assoc]
          cases hc : (Nat.beq d.sz sz && Nat.beq j 0 && Nat.beq o 0)
          · rw [hc, cond_false] at h
            cases hb : Nat.ble (o + n * d.sz) sz
            · simp [hb] at h
            rw [hb, cond_true] at h
            simp only [Option.some.injEq, Prod.mk.injEq, inRange_iff] at h
            obtain ⟨⟨h0, hn⟩, rfl⟩ := h
            rw [rel_ptr] at h1
            obtain ⟨loc, g, hloc, hg, rfl, hj⟩ := h1
            exact ⟨_, hrun g h0 hn, rel_ptr.2 ⟨loc, g, hloc, hg, rfl, hj⟩⟩
          · simp only [hc, cond_true, Option.some.injEq, Prod.mk.injEq, Bool.and_eq_true, inRange_iff, decide_eq_true_eq] at h
            obtain ⟨⟨⟨h0, hn⟩, hln⟩, rfl⟩ := h
            simp only [Bool.and_eq_true] at hc
            have hs : d.sz = sz := Nat.eq_of_beq_eq_true hc.1.1
            have hj : j = 0 := Nat.eq_of_beq_eq_true hc.1.2
            have ho : o = 0 := Nat.eq_of_beq_eq_true hc.2
            subst hj ho
            rw [rel_ptr] at h1
            obtain ⟨loc, g, hloc, hg, rfl, _⟩ := h1
            refine ⟨_, hrun g h0 hn, ?_⟩
            rw [rel_ptr]
            exact ⟨loc, g, hloc, hg, by simp [hs], by have := (locs_some hloc).2.2; omega⟩
        · simp at h
      · simp at h
    · simp at h
  · simp at h

theorem pvFieldAddr_ok (hT : TabOk P tab) {t f : Nat} {x v : AV} {u : Value} (h : pvFieldAddr tab t x f = some v) (h1 : Rel W ok R x u) : Res P W ok R (Instr.fieldAt t u f) v := by
  unfold pvFieldAddr at h
  split at h
  · rename_i fs _ _ _ _ ht
    obtain ⟨z, hz⟩ := hT _ _ ht
    obtain ⟨fields, hd, hf⟩ : ∃ fields, P.underlying t = some (.struct fields) ∧ fields.toList.map (fun f => (f.type, f.offset)) = fs := hz.desc
    split at h
    · rename_i ft off hfo
      obtain ⟨fl, hfl, rfl, rfl⟩ := fields_at hf hfo
      split at h
      · rename_i d hd'
        obtain ⟨ze, hze⟩ := hT _ _ hd'
        have hrun : ∀ a : Addr, (Instr.fieldAt t (.pointer (some a)) f).run P W = .ok (.pointer (some (a.add fl.offset))) W := by
          intro a
          simp [Instr.fieldAt, run_underlying hd, hfl, Instr.sureAddr, fieldPlace, hze.sizeOf, Nat.ne_of_gt hze.pos]
        split at h
        · rename_i b sz i o
          cases hc : Nat.ble (o + fl.offset + d.sz) sz
          · simp [hc] at h
          · simp only [hc, cond_true, Option.some.injEq] at h
            subst h
            rw [rel_ptr] at h1
            obtain ⟨loc, g, hloc, hg, rfl, hn⟩ := h1
            refine ⟨_, hrun _, ?_⟩
            rw [rel_ptr]
            refine ⟨loc, g, hloc, hg, ?_, hn⟩
            simp only [Addr.add]
            by_cases hz0 : fl.offset = 0 <;> simp [hz0, Nat.add_assoc]
        · rename_i l
          cases ha : d.tk.isAgg
          · simp only [ha, cond_false] at h
            cases hc : (Nat.blt fl.offset l.length && !(aget l fl.offset).isAgg)
            · simp [hc] at h
            · simp only [hc, cond_true, Option.some.injEq] at h
              subst h
              rw [Bool.and_eq_true, Bool.not_eq_true'] at hc
              rw [rel_elem] at h1
              obtain ⟨ad, ds, rfl, hok, hat, hx⟩ := h1
              simp only [X] at hx
              obtain ⟨y, hy, hxy⟩ := C_one hx _ (blt_lt hc.1)
              refine ⟨_, hrun _, ?_⟩
              rw [rel_elem]
              refine ⟨_, [y], rfl, by rwa [block_add], ?_, hxy⟩
              intro j u hu
              cases j with
              | succ j => simp at hu
              | zero =>
                simp only [List.getElem?_cons_zero, Option.some.injEq] at hu
                subst hu
                rw [add_at, Nat.add_zero]
                exact hat _ _ hy
          · simp [ha] at h
        · simp at h
      · simp at h
    · simp at h
  · simp at h
end
end Go.RX

/- The operations that make no memory: cuts of slices and texts, structs that are built, lengths; and all of them together. -/
set_option linter.unusedVariables false
set_option linter.unusedSimpArgs false
namespace Go.RX
section
variable {P : Program} {tab : Tab} {W : World} {ok : Nat → Prop} {ρ : Nat → Option Nat} {H : List Blk} {R : Nat → Option Loc}

theorem cutOk_spec {a b m : Option Int} {n : Nat} (h : cutOk a b m n = true) :
    0 ≤ a.getD 0 ∧ a.getD 0 ≤ b.getD (n : Int) ∧ b.getD (n : Int) ≤ n ∧ (∀ m', m = some m' → b.isSome = true ∧ b.getD (n : Int) ≤ m' ∧ m' ≤ n) := by
  unfold cutOk at h
  split at h <;> (try simp only [Bool.and_eq_true, decide_eq_true_eq] at h) <;> simp
  all_goals first | omega | (cases h)

/-- The bounds as the machine has them. -/
def BV (R' : Option Value) (x : Option Int) : Prop := match R', x with
  | none, none => True
  | some v, some n => ∃ k, v = .int k n
  | _, _ => False

theorem optInt_ok {ev : Operand → AV} {rv : Operand → Value} {o : Option Operand} {x : Option Int} (h : optInt ev o = some x) (hr : ∀ p, o = some p → Rel W ok R (ev p) (rv p)) : BV (o.map rv) x := by
  cases o with
  | none => simp only [optInt, Option.some.injEq] at h; subst h; trivial
  | some p =>
    simp only [optInt] at h
    split at h
    · rename_i k n he
      simp only [Option.some.injEq] at h
      subst h
      have := hr p rfl
      rw [he, rel_int] at this
      exact ⟨k, this⟩
    · simp at h

theorem sliceBound_run {k : IntKind} {n : Int} {y : Nat} {code : BoundsCode} (h0 : 0 ≤ n) (h1 : n ≤ y) : (Instr.sliceBound (.int k n) y code).run P W = .ok n.toNat W := by
  simp [Instr.sliceBound, asIntOf, h0, h1]

theorem bounds_run {s : Bool} {len cap : Nat} {lo hi mx : Option Value} {a b m : Option Int} (ha : BV lo a) (hb : BV hi b) (hm : BV mx m) (hlc : len ≤ cap)
    (h0 : 0 ≤ a.getD 0) (h1 : a.getD 0 ≤ b.getD (len : Int)) (h2 : b.getD (len : Int) ≤ len) (h3 : ∀ m', m = some m' → b.isSome = true ∧ b.getD (len : Int) ≤ m' ∧ m' ≤ len) :
    (Instr.sliceBounds s len cap lo hi mx).run P W = .ok ((a.getD 0).toNat, (b.getD (len : Int)).toNat, (m.getD (cap : Int)).toNat) W := by
  cases lo <;> cases a <;> simp only [BV] at ha <;> cases hi <;> cases b <;> simp only [BV] at hb <;> cases mx <;> cases m <;> simp only [BV] at hm
  all_goals (try (obtain ⟨_, rfl⟩ := ha)); (try (obtain ⟨_, rfl⟩ := hb)); (try (obtain ⟨_, rfl⟩ := hm)); simp only [Option.getD_some, Option.getD_none, Option.isSome_some, Option.isSome_none, Option.some.injEq, forall_eq', Bool.false_eq_true, false_and] at h0 h1 h2 h3
  case none.none.none.none.none.none => simp [Instr.sliceBounds]
  case none.none.some.some.none.none v b =>
    simp only [Instr.sliceBounds, Sem.run_bind, Sem.run_pure, Result.andThen_ok]
    rw [sliceBound_run (by omega) (by omega)]
    simp
  case none.none.some.some.some.some v b v' m =>
    simp only [Instr.sliceBounds, Sem.run_bind, Sem.run_pure, Result.andThen_ok]
    rw [sliceBound_run (by omega) (by omega)]
    simp only [Result.andThen_ok]
    rw [sliceBound_run (by omega) (by omega)]
    simp
  case some.some.none.none.none.none =>
    simp only [Instr.sliceBounds, Sem.run_bind, Sem.run_pure, Result.andThen_ok]
    rw [sliceBound_run (by omega) (by omega)]
    simp
  case some.some.some.some.none.none =>
    simp only [Instr.sliceBounds, Sem.run_bind, Sem.run_pure, Result.andThen_ok]
    rw [sliceBound_run (by omega) (by omega)]
    simp only [Result.andThen_ok]
    rw [sliceBound_run (by omega) (by omega)]
    simp
  case some.some.some.some.some.some =>
    simp only [Instr.sliceBounds, Sem.run_bind, Sem.run_pure, Result.andThen_ok]
    rw [sliceBound_run (by omega) (by omega)]
    simp only [Result.andThen_ok]
    rw [sliceBound_run (by omega) (by omega)]
    simp only [Result.andThen_ok]
    rw [sliceBound_run (by omega) (by omega)]
    simp

theorem cutL_eq {α : Type} (l : List α) (a b : Option Int) : cutL l a b = (l.take (b.getD (l.length : Int)).toNat).drop (a.getD 0).toNat := by
  unfold cutL
  cases a <;> cases b <;> simp
theorem cutL_length {α : Type} (l : List α) (a b : Option Int) (h2 : b.getD (l.length : Int) ≤ l.length) : (cutL l a b).length = (b.getD (l.length : Int)).toNat - (a.getD 0).toNat := by
  rw [cutL_eq, List.length_drop, List.length_take]
  omega

theorem slice_run (hT : TabOk P tab) {t e : Nat} {d : TyD} (hd : P.underlying t = some (.slice e)) (hde : tab e = some d) {A : Option Addr} {len cap : Nat} {lo hi mx : Option Value} {l h m : Nat}
    (hb : (Instr.sliceBounds true len cap lo hi mx).run P W = .ok (l, h, m) W) :
    (Instr.sliceAt t (.slice A len cap) lo hi mx).run P W = .ok (.slice (if m = l then A else A.map (·.add (l * d.sz))) (h - l) (m - l)) W := by
  obtain ⟨z, hz⟩ := hT _ _ hde
  simp [Instr.sliceAt, Instr.slice, run_underlying hd, hb, hz.sizeOf]

theorem pvSlice_ok (hT : TabOk P tab) {ev : Operand → AV} {rv : Operand → Value} {t : Nat} {x v : AV} {u : Value} {lo hi mx : Option Operand} (h : pvSlice tab ev H t x lo hi mx = some (true, v)) (h1 : Rel W ok (locs ρ H) x u)
    (hl : ∀ p, lo = some p → Rel W ok (locs ρ H) (ev p) (rv p)) (hh : ∀ p, hi = some p → Rel W ok (locs ρ H) (ev p) (rv p)) (hm : ∀ p, mx = some p → Rel W ok (locs ρ H) (ev p) (rv p)) :
    Res P W ok (locs ρ H) (Instr.sliceAt t u (lo.map rv) (hi.map rv) (mx.map rv)) v := by
  unfold pvSlice at h
  split at h
  · rename_i a b m ha hb hmm
    have Ba := optInt_ok ha hl
    have Bb := optInt_ok hb hh
    have Bm := optInt_ok hmm hm
    split at h
    · rename_i e _ _ _ _ ht
      obtain ⟨z, hz⟩ := hT _ _ ht
      have hd : P.underlying t = some (.slice e) := hz.desc
      split at h
      · rename_i d hd'
        split at h
        · rename_i k l
          cases hc : Nat.beq d.sz 1
          · simp [hc] at h
          · have hs : d.sz = 1 := Nat.eq_of_beq_eq_true hc
            simp only [hc, cond_true, Option.some.injEq, Prod.mk.injEq] at h
            obtain ⟨hok, rfl⟩ := h
            obtain ⟨q0, q1, q2, q3⟩ := cutOk_spec hok
            rw [rel_ints] at h1
            obtain ⟨A, c, rfl, hlc, hat⟩ := h1
            have hrun := slice_run (P := P) (W := W) hT hd hd' (A := A) (bounds_run (P := P) (W := W) (s := true) Ba Bb Bm hlc q0 q1 q2 q3)
            refine ⟨_, hrun, ?_⟩
            rw [rel_ints, cutL_length _ _ _ q2]
            refine ⟨_, _, rfl, ?_, ?_⟩
            · cases m with
              | none => simp only [Option.getD_none]; omega
              | some m => have := q3 m rfl; simp only [Option.getD_some]; omega
            · rcases Nat.eq_zero_or_pos (cutL l a b).length with h0 | h0
              · exact .inl (List.eq_nil_of_length_eq_zero h0)
              · rw [cutL_length _ _ _ q2] at h0
                rcases hat with rfl | ⟨ad, rfl, hok', hat⟩
                · simp at q2; simp at h0; omega
                · refine .inr ⟨ad.add ((a.getD 0).toNat * d.sz), ?_, by rwa [block_add], ?_⟩
                  · rw [if_neg]
                    · rfl
                    · cases m with
                      | none => simp only [Option.getD_none]; omega
                      | some m => have := q3 m rfl; simp only [Option.getD_some]; omega
                  · rw [hs, Nat.mul_one, cutL_eq, List.map_drop, List.map_take]
                    have := At_sub hat (a.getD 0).toNat (((b.getD (l.length : Int)).toNat) - (a.getD 0).toNat)
                    rwa [List.drop_take]
        · rename_i et l
          cases hc : Nat.beq d.sz et.sz
          · simp [hc] at h
          · have hs : d.sz = et.sz := Nat.eq_of_beq_eq_true hc
            simp only [hc, cond_true, Option.some.injEq, Prod.mk.injEq] at h
            obtain ⟨hok, rfl⟩ := h
            obtain ⟨q0, q1, q2, q3⟩ := cutOk_spec hok
            rw [rel_list] at h1
            obtain ⟨A, c, rfl, hlc, hwt, hat⟩ := h1
            have hrun := slice_run (P := P) (W := W) hT hd hd' (A := A) (bounds_run (P := P) (W := W) (s := true) Ba Bb Bm hlc q0 q1 q2 q3)
            refine ⟨_, hrun, ?_⟩
            rw [rel_list, cutL_length _ _ _ q2]
            refine ⟨_, _, rfl, ?_, ?_, ?_⟩
            · cases m with
              | none => simp only [Option.getD_none]; omega
              | some m => have := q3 m rfl; simp only [Option.getD_some]; omega
            · intro x hx
              rw [cutL_eq] at hx
              exact hwt x (List.mem_of_mem_take (List.mem_of_mem_drop hx))
            · rcases Nat.eq_zero_or_pos (cutL l a b).length with h0 | h0
              · exact .inl (List.eq_nil_of_length_eq_zero h0)
              · rw [cutL_length _ _ _ q2] at h0
                rcases hat with rfl | ⟨ad, ds, rfl, hok', hat, hlen, hC⟩
                · simp at q2; simp at h0; omega
                · refine .inr ⟨ad.add ((a.getD 0).toNat * d.sz), (ds.drop ((a.getD 0).toNat * et.sz)).take (((b.getD (l.length : Int)).toNat - (a.getD 0).toNat) * et.sz), ?_, by rwa [block_add], ?_, ?_, ?_⟩
                  · rw [if_neg]
                    · rfl
                    · cases m with
                      | none => simp only [Option.getD_none]; omega
                      | some m => have := q3 m rfl; simp only [Option.getD_some]; omega
                  · rw [hs]
                    exact At_sub hat _ _
                  · rw [List.length_take, List.length_drop, hlen, ← Nat.sub_mul]
                    apply Nat.min_eq_left
                    apply Nat.mul_le_mul_right
                    omega
                  · rw [cutL_eq, List.drop_take]
                    exact C_sub _ _ hC
        · simp only [Option.some.injEq, Prod.mk.injEq] at h
          obtain ⟨hok, rfl⟩ := h
          obtain ⟨q0, q1, q2, q3⟩ := cutOk_spec hok
          rw [rel_nilS] at h1
          subst h1
          have hrun := slice_run (P := P) (W := W) hT hd hd' (A := none) (bounds_run (P := P) (W := W) (s := true) Ba Bb Bm (Nat.le_refl 0) q0 q1 q2 q3)
          refine ⟨_, hrun, ?_⟩
          rw [rel_nilS]
          have : (b.getD ((0 : Nat) : Int)).toNat = 0 := by omega
          have hm0 : (m.getD ((0 : Nat) : Int)).toNat = 0 := by
            cases m with
            | none => rfl
            | some m => have := q3 m rfl; simp only [Option.getD_some]; omega
          have e1 : (b.getD ((0 : Nat) : Int)).toNat - (a.getD 0).toNat = 0 := by omega
          have e2 : (m.getD ((0 : Nat) : Int)).toNat - (a.getD 0).toNat = 0 := by omega
          rw [e1, e2]
          split <;> rfl
        · rename_i bl sz
          cases hc : Nat.beq d.sz sz
          · simp [hc] at h
          · have hs : d.sz = sz := Nat.eq_of_beq_eq_true hc
            simp only [hc, cond_true, Option.some.injEq, Prod.mk.injEq] at h
            obtain ⟨hok, rfl⟩ := h
            obtain ⟨q0, q1, q2, q3⟩ := cutOk_spec hok
            rw [rel_vec] at h1
            obtain ⟨loc, hloc, h1⟩ := h1
            obtain ⟨hlive, hg, hlen⟩ := locs_some hloc
            rw [← hlen] at q1 q2 q3 hok ⊢
            rcases h1 with ⟨hg0, hn0, rfl⟩ | ⟨g, c, T, mm, hg', rfl, hc', hsh, hmm⟩
            · have hrun := slice_run (P := P) (W := W) hT hd hd' (A := none) (bounds_run (P := P) (W := W) (s := true) Ba Bb Bm (Nat.le_refl 0) q0 (by rw [← hn0]; exact q1) (by rw [← hn0]; exact q2) (by rw [← hn0]; exact q3))
              refine ⟨_, hrun, ?_⟩
              rw [rel_ref]
              left
              rw [hn0] at q1 q2 q3 ⊢
              have : (b.getD ((0 : Nat) : Int)).toNat = 0 := by omega
              have hm0 : (m.getD ((0 : Nat) : Int)).toNat = 0 := by
                cases m with
                | none => rfl
                | some m => have := q3 m rfl; simp only [Option.getD_some]; omega
              have e1 : (b.getD ((0 : Nat) : Int)).toNat - (a.getD 0).toNat = 0 := by omega
              have e2 : (m.getD ((0 : Nat) : Int)).toNat - (a.getD 0).toNat = 0 := by omega
              refine ⟨by omega, ?_, by rw [e1, e2]; split <;> rfl⟩
              intro c' hc'
              cases m with
              | none => simp at hc'
              | some m =>
                have := q3 m rfl
                simp only [Option.map_some, Option.some.injEq] at hc'
                omega
            · have hrun := slice_run (P := P) (W := W) hT hd hd' (A := some ⟨g, 0, none⟩) (bounds_run (P := P) (W := W) (s := true) Ba Bb Bm hc' q0 q1 q2 q3)
              refine ⟨_, hrun, ?_⟩
              rw [rel_ref]
              right
              have hmc : (m.getD (c : Int)).toNat ≤ c ∧ (b.getD (loc.n : Int)).toNat ≤ (m.getD (c : Int)).toNat := by
                cases m with
                | none => simp only [Option.getD_none]; omega
                | some m => have := q3 m rfl; simp only [Option.getD_some]; omega
              by_cases hml : (m.getD (c : Int)).toNat = (a.getD 0).toNat
              · have ho2 : 0 < (m.getD (c : Int)).toNat - (a.getD 0).toNat ∨ (a.getD 0).toNat = 0 → 0 = (a.getD 0).toNat * sz := by
                  intro h
                  rcases h with h | h
                  · omega
                  · rw [h]; simp
                refine ⟨loc, g, (m.getD (c : Int)).toNat - (a.getD 0).toNat, 0, T, mm, hloc, hg', ?_, by omega, ?_, ho2, hsh, ?_, by omega⟩
                · rw [if_pos hml]
                  congr 1
                  omega
                · intro c' hc'
                  cases m with
                  | none => simp at hc'
                  | some m =>
                    simp only [Option.map_some, Option.some.injEq, Option.getD_some] at hc' ⊢
                    omega
                · refine Nat.le_trans (Nat.mul_le_mul_right _ ?_) hmm
                  omega
              · refine ⟨loc, g, (m.getD (c : Int)).toNat - (a.getD 0).toNat, (a.getD 0).toNat * sz, T, mm, hloc, hg', ?_, by omega, ?_, fun _ => rfl, hsh, ?_, by omega⟩
                · rw [if_neg hml, hs]
                  have : (b.getD (loc.n : Int)).toNat - (a.getD 0).toNat = (b.getD (loc.n : Int) - a.getD 0).toNat := by omega
                  rw [this]
                  simp only [Option.map_some, Addr.add]
                  by_cases hz0 : (a.getD 0).toNat * sz = 0 <;> simp [hz0]
                · intro c' hc'
                  cases m with
                  | none => simp at hc'
                  | some m =>
                    simp only [Option.map_some, Option.some.injEq, Option.getD_some] at hc' ⊢
                    omega
                · refine Nat.le_trans (Nat.mul_le_mul_right _ ?_) hmm
                  omega
        · rename_i bl sz off len cap
          cases hc : Nat.beq d.sz sz
          · simp [hc] at h
          · have hs : d.sz = sz := Nat.eq_of_beq_eq_true hc
            simp only [hc, cond_true, Option.some.injEq, Prod.mk.injEq] at h
            obtain ⟨hok, rfl⟩ := h
            obtain ⟨q0, q1, q2, q3⟩ := cutOk_spec hok
            rw [rel_ref] at h1
            rcases h1 with ⟨hl0, hc0, rfl⟩ | ⟨loc, g, c, o, T, mm, hloc, hg, rfl, hlc, hcap, ho, hsh, hmm, hln⟩
            · subst hl0
              have hrun := slice_run (P := P) (W := W) hT hd hd' (A := none) (bounds_run (P := P) (W := W) (s := true) Ba Bb Bm (Nat.le_refl 0) q0 q1 q2 q3)
              refine ⟨_, hrun, ?_⟩
              rw [rel_ref]
              left
              have : (b.getD ((0 : Nat) : Int)).toNat = 0 := by omega
              have hm0 : (m.getD ((0 : Nat) : Int)).toNat = 0 := by
                cases m with
                | none => rfl
                | some m => have := q3 m rfl; simp only [Option.getD_some]; omega
              have e1 : (b.getD ((0 : Nat) : Int)).toNat - (a.getD 0).toNat = 0 := by omega
              have e2 : (m.getD ((0 : Nat) : Int)).toNat - (a.getD 0).toNat = 0 := by omega
              refine ⟨by omega, ?_, by rw [e1, e2]; split <;> rfl⟩
              intro c' hc'
              cases m with
              | none =>
                obtain ⟨c1, h1, h2⟩ := Option.map_eq_some_iff.1 hc'
                have := hc0 _ h1
                omega
              | some m =>
                have := q3 m rfl
                simp only [Option.some.injEq] at hc'
                omega
            · have hrun := slice_run (P := P) (W := W) hT hd hd' (A := some ⟨g, o, none⟩) (bounds_run (P := P) (W := W) (s := true) Ba Bb Bm hlc q0 q1 q2 q3)
              refine ⟨_, hrun, ?_⟩
              rw [rel_ref]
              right
              have hmc : (m.getD (c : Int)).toNat ≤ c ∧ (b.getD (len : Int)).toNat ≤ (m.getD (c : Int)).toNat := by
                cases m with
                | none => simp only [Option.getD_none]; omega
                | some m => have := q3 m rfl; simp only [Option.getD_some]; omega
              have hcp : ∀ c', (match m with | some m => some (m - a.getD 0).toNat | none => cap.map fun c => c - (a.getD 0).toNat) = some c' → (m.getD (c : Int)).toNat - (a.getD 0).toNat = c' := by
                intro c' hc'
                cases m with
                | none =>
                  obtain ⟨c1, h1, h2⟩ := Option.map_eq_some_iff.1 hc'
                  have := hcap _ h1
                  simp only [Option.getD_none]
                  omega
                | some m =>
                  simp only [Option.some.injEq, Option.getD_some] at hc' ⊢
                  omega
              have hbd : (off + (a.getD 0).toNat + ((m.getD (c : Int)).toNat - (a.getD 0).toNat)) * sz ≤ mm :=
                Nat.le_trans (Nat.mul_le_mul_right _ (by omega)) hmm
              by_cases hml : (m.getD (c : Int)).toNat = (a.getD 0).toNat
              · have ho2 : 0 < (m.getD (c : Int)).toNat - (a.getD 0).toNat ∨ off + (a.getD 0).toNat = 0 → o = (off + (a.getD 0).toNat) * sz := by
                  intro h
                  rcases h with h | h
                  · omega
                  · have h1 := ho (.inr (by omega))
                    rw [h1, h, show off = 0 from by omega]
                refine ⟨loc, g, (m.getD (c : Int)).toNat - (a.getD 0).toNat, o, T, mm, hloc, hg, ?_, by omega, hcp, ho2, hsh, hbd, by omega⟩
                rw [if_pos hml]
                congr 1
                omega
              · refine ⟨loc, g, (m.getD (c : Int)).toNat - (a.getD 0).toNat, (off + (a.getD 0).toNat) * sz, T, mm, hloc, hg, ?_, by omega, hcp, fun _ => rfl, hsh, hbd, by omega⟩
                rw [if_neg hml, hs, ho (by omega)]
                have : (b.getD (len : Int)).toNat - (a.getD 0).toNat = (b.getD (len : Int) - a.getD 0).toNat := by omega
                rw [this]
                simp only [Option.map_some, Addr.add, Nat.add_mul]
                by_cases hz0 : (a.getD 0).toNat * sz = 0 <;> simp [hz0]
        · simp at h
      · simp at h
    · rename_i ht
      obtain ⟨z, hz⟩ := hT _ _ ht
      have hd : P.underlying t = some .string := hz.desc
      split at h
      · rename_i s
        simp only [Option.some.injEq, Prod.mk.injEq] at h
        obtain ⟨hok, rfl⟩ := h
        obtain ⟨q0, q1, q2, q3⟩ := cutOk_spec hok
        rw [rel_str] at h1
        subst h1
        have hb' := bounds_run (P := P) (W := W) (s := false) Ba Bb (show BV none none from trivial) (Nat.le_refl s.size) q0 q1 q2 q3
        have hmx : mx = none := by
          cases mx with
          | none => rfl
          | some p => simp [BV] at Bm
        subst hmx
        refine res_str ?_
        simp [Instr.sliceAt, Instr.slice, run_underlying hd, hb']
      · simp at h
    · simp at h
  · simp at h
end
end Go.RX

/- Structs and arrays that are built; lengths; and all operations that make no memory together. -/
set_option linter.unusedVariables false
set_option linter.unusedSimpArgs false
namespace Go.RX
section
variable {P : Program} {tab : Tab} {W : World} {ok : Nat → Prop} {ρ : Nat → Option Nat} {H : List Blk} {R : Nat → Option Loc}

def plain : AV → Bool
  | .agg _ | .dead | .tup _ => false
  | _ => true

theorem X_one {x : AV} {cs : List Value} (hp : plain x = true) (h : X W ok R x cs) : ∃ u, cs = [u] ∧ u.cells = #[u] ∧ u.oneCell' = true := by
  cases x <;> simp only [plain, reduceCtorEq] at hp <;> (try simp only [X] at h)
  case list => obtain ⟨A, c, e, _⟩ := h; exact ⟨_, e, rfl, rfl⟩
  case ints => obtain ⟨A, c, e, _⟩ := h; exact ⟨_, e, rfl, rfl⟩
  case elem => obtain ⟨A, c, e, _⟩ := h; exact ⟨_, e, rfl, rfl⟩
  case iface => obtain ⟨y, e, _⟩ := h; exact ⟨_, e, rfl, rfl⟩
  case clo => obtain ⟨us, e, _⟩ := h; exact ⟨_, e, rfl, rfl⟩
  case err e =>
    match e, h with
    | none, h => simp only [X] at h; exact ⟨_, h, rfl, rfl⟩
    | some (a, c), h => simp only [X] at h; obtain ⟨ad, e, _⟩ := h; exact ⟨_, e, rfl, rfl⟩
  case vec => obtain ⟨loc, _, ⟨_, _, e⟩ | ⟨g, c, T, m, _, e, _⟩⟩ := h <;> exact ⟨_, e, rfl, rfl⟩
  case ref => obtain ⟨_, _, e⟩ | ⟨loc, g, c, o, T, m, _, _, e, _⟩ := h <;> exact ⟨_, e, rfl, rfl⟩
  case ptr => obtain ⟨loc, g, _, _, e, _⟩ := h; exact ⟨_, e, rfl, rfl⟩
  all_goals exact ⟨_, h, rfl, rfl⟩

theorem Rel_cells {x : AV} {u : Value} {vs : List AV} (h : cellsAV x = some vs) (hr : Rel W ok R x u) : C W ok R 1 vs u.cells.toList := by
  by_cases hp : plain x = true
  · have hv : vs = [x] := by cases x <;> simp_all [cellsAV, plain]
    have ha : x.isAgg = false := by cases x <;> simp_all [AV.isAgg, plain]
    have h0 : Rel0 W ok R x u := by
      unfold Rel at hr
      split at hr <;> simp_all [plain]
    have hx : X W ok R x [u] := by simpa [Rel0, lift, ha] using h0
    obtain ⟨u', e, hc, _⟩ := X_one hp hx
    simp only [List.cons.injEq, and_true] at e
    subst e
    rw [hc, hv]
    simp only [C]
    exact ⟨[u], [], rfl, rfl, hx, rfl⟩
  · cases x <;> simp_all [plain, cellsAV]
    rename_i l
    rw [rel_agg] at hr
    obtain ⟨cs, rfl, hC⟩ := hr
    exact hC

theorem fold_set : ∀ (vs : List Value) (off k : Nat) (cells : Array Value), off + k + vs.length ≤ cells.size →
    (vs.zipIdx k).foldl (fun cs (p : Value × Nat) => cs.setIfInBounds (off + p.2) p.1) cells = (cells.toList.take (off + k) ++ vs ++ cells.toList.drop (off + k + vs.length)).toArray
  | [], off, k, cells, _ => by simp
  | v :: vs, off, k, cells, h => by
    simp only [List.length_cons] at h
    simp only [List.zipIdx_cons, List.foldl_cons]
    rw [fold_set vs off (k + 1) _ (by simp; omega)]
    congr 1
    have := list_seg_step cells.toList (off + k) v vs (by simp; omega)
    simp only [Array.toList_setIfInBounds]
    rw [show off + (k + 1) = off + k + 1 from rfl, this]
    simp [Nat.add_assoc, Nat.add_comm 1]

theorem fill_ok {place : Nat → Option (Nat × Nat)} : ∀ {parts : List (Nat × AV)} {parts' : List (Nat × Value)} {l l' : List AV} {cells : Array Value}, pvFill place l parts = some l' → C W ok R 1 l cells.toList →
    All2 (fun p q => p.1 = q.1 ∧ Rel W ok R p.2 q.2) parts parts' → ∃ cells', Instr.fill place cells parts' = some cells' ∧ C W ok R 1 l' cells'.toList
  | [], parts', l, l', cells, h, hC, ha => by
    simp only [All2] at ha
    subst ha
    simp only [pvFill, Option.some.injEq] at h
    subst h
    exact ⟨cells, rfl, hC⟩
  | (i, v) :: r, _, l, l', cells, h, hC, ⟨(j, u), r', rfl, ⟨hij, hr⟩, ha⟩ => by
    simp only at hij
    subst hij
    simp only [pvFill] at h
    split at h
    · rename_i off size hpl
      split at h
      · rename_i vs hvs
        cases hc : (Nat.beq vs.length size && Nat.ble (off + size) l.length)
        · simp [hc] at h
        · simp only [hc, cond_true] at h
          simp only [Bool.and_eq_true] at hc
          have h1 : vs.length = size := Nat.eq_of_beq_eq_true hc.1
          have h2 : off + size ≤ l.length := Nat.le_of_ble_eq_true hc.2
          have hCv := Rel_cells hvs hr
          have hl := C_length 1 l _ hC
          have hlv := C_length 1 vs _ hCv
          simp only [Array.length_toList, Nat.mul_one] at hl hlv
          have hC' : C W ok R 1 (asetL l off vs) (cells.toList.take off ++ u.cells.toList ++ cells.toList.drop (off + u.cells.size)) := by
            unfold asetL
            have ht := C_take (m := 1) off hC
            have hd := C_drop (m := 1) (off + vs.length) hC
            rw [Nat.mul_one] at ht hd
            rw [hlv]
            exact C_append (C_append ht hCv) hd
          simp only [Instr.fill, hpl]
          rw [if_neg (by simp only [Bool.or_eq_true, decide_eq_true_eq, ne_eq]; omega)]
          have hf := fold_set u.cells.toList off 0 cells (by simp; omega)
          have hf' : u.cells.zipIdx.foldl (fun cs (x : Value × Nat) => match x with | (c, j) => cs.setIfInBounds (off + j) c) cells = (cells.toList.take off ++ u.cells.toList ++ cells.toList.drop (off + u.cells.size)).toArray := by
            rw [← Array.foldl_toList]
            simpa using hf
          rw [hf']
          exact fill_ok h (by simpa using hC') ha
      · simp at h
    · simp at h

theorem Rel0_agg_cells {l : List AV} {z : Value} (h : Rel0 W ok R (.agg l) z) : ∃ cs, z = .agg cs ∧ C W ok R 1 l cs.toList := by
  simpa [Rel0, lift, AV.isAgg, X] using h

theorem mapM_places (hT : TabOk P tab) {fs : List (TypeId × Nat)} : ∀ {fields : List Field}, fields.map (fun f => (f.type, f.offset)) = fs → (∀ p, p ∈ fs → (tab p.1).isSome = true) →
    (fields.mapM (fun f => (do pure (f.offset, ← sizeOf f.type) : Sem (Nat × Nat)))).run P W = .ok (fs.map fun p => (p.2, ((tab p.1).map (·.sz)).getD 0)) W := by
  intro fields h hs
  induction fields generalizing fs with
  | nil => subst h; simp
  | cons f fields ih =>
    subst h
    have hf := hs (f.type, f.offset) (by simp)
    obtain ⟨d, hd⟩ := Option.isSome_iff_exists.1 hf
    obtain ⟨z, hz⟩ := hT _ _ hd
    have := ih rfl (fun p hp => hs p (by simp at hp ⊢; exact .inr hp))
    simp only [List.mapM_cons, Sem.run_bind, hz.sizeOf, Result.andThen_ok, Sem.run_pure, this, List.map_cons, hd]
    rfl

theorem pvBuild_ok (hT : TabOk P tab) {ev : Operand → AV} {rv : Operand → Value} {t : Nat} {v : AV} {parts : List (Nat × Operand)} (h : pvBuild tab ev t parts = some v) (hr : ∀ p, p ∈ parts → Rel W ok R (ev p.2) (rv p.2)) :
    Res P W ok R (Instr.build t (parts.map fun p => (p.1, rv p.2)).toArray) v := by
  have hA : All2 (fun p q => p.1 = q.1 ∧ Rel W ok R p.2 q.2) (parts.map fun p => (p.1, ev p.2)) (parts.map fun p => (p.1, rv p.2)) := by
    clear h
    induction parts with
    | nil => simp [All2]
    | cons p ps ih => exact ⟨_, _, rfl, ⟨rfl, hr p (by simp)⟩, ih (fun q hq => hr q (by simp [hq]))⟩
  unfold pvBuild at h
  split at h
  · rename_i fs sz by_ et z ht
    obtain ⟨zv, hz⟩ := hT _ _ ht
    obtain ⟨fields, hd, hf⟩ : ∃ fields, P.underlying t = some (.struct fields) ∧ fields.toList.map (fun f => (f.type, f.offset)) = fs := hz.desc
    obtain ⟨cs, rfl, hC⟩ := Rel0_agg_cells (hz.zero W ok R)
    cases hs : fs.all fun p => (tab p.1).isSome
    · simp [hs] at h
    · rw [hs, cond_true] at h
      obtain ⟨l', hfl, rfl⟩ := Option.map_eq_some_iff.1 h
      obtain ⟨cells', hc', hC'⟩ := fill_ok hfl hC hA
      refine ⟨.agg cells', ?_, by rw [rel_agg]; exact ⟨_, rfl, hC'⟩⟩
      have hm := mapM_places (W := W) hT hf (fun p hp => List.all_eq_true.1 hs p hp)
      simp only [Instr.build, Sem.run_bind, hz.zeroValue, Result.andThen_ok, run_underlying hd, Array.mapM_eq_mapM_toList, Sem.run_map, hm, Value.cells]
      simp only [List.getElem?_toArray]
      rw [hc']
      rfl
  · rename_i n e sz by_ et z ht
    obtain ⟨zv, hz⟩ := hT _ _ ht
    have hd : P.underlying t = some (.array n e) := hz.desc
    obtain ⟨cs, rfl, hC⟩ := Rel0_agg_cells (hz.zero W ok R)
    split at h
    · rename_i d hd'
      obtain ⟨ze, hze⟩ := hT _ _ hd'
      obtain ⟨l', hfl, rfl⟩ := Option.map_eq_some_iff.1 h
      obtain ⟨cells', hc', hC'⟩ := fill_ok hfl hC hA
      refine ⟨.agg cells', ?_, by rw [rel_agg]; exact ⟨_, rfl, hC'⟩⟩
      simp only [Instr.build, Sem.run_bind, hz.zeroValue, Result.andThen_ok, run_underlying hd, hze.sizeOf, Value.cells]
      rw [hc']
      rfl
    · simp at h
  · simp at h
end
end Go.RX

/- All operations that make no memory together. -/
set_option linter.unusedVariables false
set_option linter.unusedSimpArgs false
namespace Go.RX
section
variable {P : Program} {tab : Tab} {W : World} {ok : Nat → Prop} {ρ : Nat → Option Nat} {H : List Blk} {R : Nat → Option Loc}

theorem Res.next {m : Sem Value} {v : AV} (h : Res P W ok R m v) : ∃ u, (do pure (Next.value (← m)) : Sem Next).run P W = .ok (.value u) W ∧ Rel W ok R v u := by
  obtain ⟨u, hu, hr⟩ := h
  exact ⟨u, by simp [hu], hr⟩

theorem lenAV_ok {x : AV} {u : Value} {n : Nat} (hs : ∀ s, x ≠ .str s) (h : lenAV H x = some n) (hr : Rel W ok (locs ρ H) x u) : ∃ A c, u = .slice A n c := by
  unfold lenAV at h
  split at h <;> try (simp at h; done)
  · rw [rel_ints] at hr; obtain ⟨A, c, e, _⟩ := hr; simp only [Option.some.injEq] at h; subst h; exact ⟨_, _, e⟩
  · rw [rel_list] at hr; obtain ⟨A, c, e, _⟩ := hr; simp only [Option.some.injEq] at h; subst h; exact ⟨_, _, e⟩
  · rw [rel_nilS] at hr; simp only [Option.some.injEq] at h; subst h; exact ⟨_, _, hr⟩
  · rw [rel_vec] at hr
    simp only [Option.some.injEq] at h; subst h
    obtain ⟨loc, hl, hr⟩ := hr
    have hn := (locs_some hl).2.2
    rw [← hn]
    rcases hr with ⟨_, h0, e⟩ | ⟨g, c, T, m, _, e, _⟩
    · rw [h0]; exact ⟨_, _, e⟩
    · exact ⟨_, _, e⟩
  · rw [rel_ref] at hr
    simp only [Option.some.injEq] at h; subst h
    rcases hr with ⟨h0, _, e⟩ | ⟨loc, g, c, o, T, m, _, _, e, _⟩
    · rw [h0]; exact ⟨_, _, e⟩
    · exact ⟨_, _, e⟩
  · exact absurd rfl (hs _)

theorem len_ok (hT : TabOk P tab) {t : TypeId} {x v : AV} {u : Value} {ty : TypeId} (h : (match tab t with
        | some { tk := .slice _, .. } => match x with
          | .str _ => none
          | w => match lenAV H w with
            | some n => some (true, AV.int .i64 (n : Int))
            | none => none
        | some { tk := .str, .. } => match x with
          | .str s => some (true, .int .i64 s.size)
          | _ => none
        | some { tk := .arr n _, .. } => some (true, .int .i64 n)
        | _ => none) = some (true, v)) (hr : Rel W ok (locs ρ H) x u) : Res P W ok (locs ρ H) (Builtin.len_ #[t] ty #[u]) v := by
  split at h
  · rename_i e _ _ _ _ ht
    obtain ⟨z, hz⟩ := hT _ _ ht
    have hd : P.underlying t = some (.slice e) := hz.desc
    split at h
    · simp at h
    · rename_i hns
      split at h
      · rename_i n hn
        simp only [Option.some.injEq, Prod.mk.injEq, true_and] at h
        subst h
        obtain ⟨A, c, rfl⟩ := lenAV_ok (fun s e => hns s e) hn hr
        exact res_int (by simp [Builtin.len_, run_underlying hd, goInt])
      · simp at h
  · rename_i ht
    obtain ⟨z, hz⟩ := hT _ _ ht
    have hd : P.underlying t = some .string := hz.desc
    split at h
    · rename_i s
      rw [rel_str] at hr
      subst hr
      simp only [Option.some.injEq, Prod.mk.injEq, true_and] at h
      subst h
      exact res_int (by simp [Builtin.len_, run_underlying hd, goInt])
    · simp at h
  · rename_i n e _ _ _ _ ht
    obtain ⟨z, hz⟩ := hT _ _ ht
    have hd : P.underlying t = some (.array n e) := hz.desc
    simp only [Option.some.injEq, Prod.mk.injEq, true_and] at h
    subst h
    exact res_int (by simp [Builtin.len_, run_underlying hd, goInt])
  · simp at h

theorem mm_go (mx : Bool) (k : IntKind) : ∀ (l : List AV) (us : List Value) (a : Int) (v : AV), pvMM.go mx k a l = some v → All2 (Rel W ok R) l us →
    ∃ n, v = .int k n ∧ (us.foldlM (if mx then Builtin.max2 else Builtin.min2) (.int k a)).run P W = .ok (.int k n) W
  | [], us, a, v, h, ha => by
    simp only [All2] at ha
    subst ha
    simp only [pvMM.go, Option.some.injEq] at h
    subst h
    exact ⟨a, rfl, by simp⟩
  | x :: l, _, a, v, h, ⟨u, us, rfl, hr, ha⟩ => by
    unfold pvMM.go at h
    split at h
    · simp at *
    · rename_i k' b r he
      simp only [List.cons.injEq] at he
      obtain ⟨rfl, rfl⟩ := he
      rw [rel_int] at hr
      subst hr
      obtain ⟨n, e, hn⟩ := mm_go mx k _ us _ v h ha
      refine ⟨n, e, ?_⟩
      cases mx
      · simp only [List.foldlM_cons, Bool.false_eq_true, if_false, Builtin.min2, Sem.run_bind, Sem.run_pure, Result.andThen_ok]
        simpa [minI] using hn
      · simp only [List.foldlM_cons, if_true, Builtin.max2, Sem.run_bind, Sem.run_pure, Result.andThen_ok]
        simpa [maxI] using hn
    · simp at h

theorem mm_ok (mx : Bool) {l : List AV} {us : List Value} {v : AV} (ts : Array TypeId) (ty : TypeId) (h : pvMM mx l = some v) (ha : All2 (Rel W ok R) l us) :
    Res P W ok R (if mx then Builtin.max_ ts ty us.toArray else Builtin.min_ ts ty us.toArray) v := by
  match l, us, ha with
  | [], _, _ => simp [pvMM] at h
  | x :: l, _, ⟨u, us, rfl, hr, ha⟩ =>
    unfold pvMM at h
    split at h
    · simp at *
    · rename_i k a r he
      simp only [List.cons.injEq] at he
      obtain ⟨rfl, rfl⟩ := he
      rw [rel_int] at hr
      subst hr
      obtain ⟨n, e, hn⟩ := mm_go (P := P) mx k _ us a v h ha
      subst e
      refine res_int ?_
      cases mx
      · simpa [Builtin.min_] using hn
      · simpa [Builtin.max_] using hn
    · simp at h

theorem All2_map {α β γ : Type} {p : β → γ → Prop} {f : α → β} {g : α → γ} : ∀ {l : List α}, (∀ x, x ∈ l → p (f x) (g x)) → All2 p (l.map f) (l.map g)
  | [], _ => rfl
  | x :: xs, h => ⟨_, _, rfl, h x (by simp), All2_map (fun y hy => h y (by simp [hy]))⟩

theorem always_some {x : Option AV} {v : AV} (h : always x = some (true, v)) : x = some v := by
  cases x <;> simp_all [always]

theorem pv_ok (hT : TabOk P tab) {o : Oper} {ev : Operand → AV} {rv : Operand → Value} {v : AV} (h : pv tab ev H o.op = some (true, v)) (hr : ∀ x, x ∈ o.op.operands.toList → Rel W ok (locs ρ H) (ev x) (rv x)) :
    ∃ u, (execOp rv o).run P W = .ok (.value u) W ∧ Rel W ok (locs ρ H) v u := by
  obtain ⟨dst, op, ty, pos, after, guard⟩ := o
  simp only at h hr
  unfold pv at h
  split at h
  · rename_i x
    simp only [Option.some.injEq, Prod.mk.injEq, true_and] at h
    subst h
    exact ⟨rv x, by simp [execOp], hr x (by simp [Op.operands])⟩
  · rename_i x
    simp only [Option.some.injEq, Prod.mk.injEq, true_and] at h
    subst h
    exact ⟨rv x, by simp [execOp], hr x (by simp [Op.operands])⟩
  · rename_i op t x y yt
    exact (pvBin_ok (X' := x) (Y' := y) hT (fun h => h) h (hr x (by simp [Op.operands])) (hr y (by simp [Op.operands]))).next
  · rename_i op t x
    exact (pvUn_ok (always_some h) (hr x (by simp [Op.operands]))).next
  · rename_i src dst x
    exact (pvConv_ok hT (always_some h) (hr x (by simp [Op.operands]))).next
  · rename_i x i
    split at h
    · rename_i l hl
      cases hc : Nat.blt i l.length
      · simp [hc] at h
      · simp only [hc, cond_true, Option.some.injEq, Prod.mk.injEq, true_and] at h
        subst h
        have := hr x (by simp [Op.operands])
        rw [hl] at this
        exact (pvExtract_ok (blt_lt hc) this).next
    · simp at h
  · rename_i t x f
    exact (pvField_ok hT (always_some h) (hr x (by simp [Op.operands]))).next
  · rename_i t x i
    exact (pvIndex_ok hT h (hr x (by simp [Op.operands])) (hr i (by simp [Op.operands]))).next
  · rename_i t x i
    exact (pvIndexAddr_ok hT h (hr x (by simp [Op.operands])) (hr i (by simp [Op.operands]))).next
  · rename_i t x f
    exact (pvFieldAddr_ok hT (always_some h) (hr x (by simp [Op.operands]))).next
  · rename_i t x lo hi mx
    exact (pvSlice_ok hT h (hr x (by simp [Op.operands])) (fun p hp => hr p (by simp [Op.operands, hp])) (fun p hp => hr p (by simp [Op.operands, hp])) (fun p hp => hr p (by simp [Op.operands, hp]))).next
  · rename_i t parts
    have := (pvBuild_ok hT (always_some h) (rv := rv) (fun p hp => hr p.2 (by simp only [Op.operands, List.mem_map]; exact ⟨p, hp, rfl⟩))).next
    have he : (parts.toList.map fun p => (p.1, rv p.2)).toArray = parts.map fun (x : Nat × Operand) => match x with | (i, x) => (i, rv x) := by
      apply Array.ext'
      simp
    rw [he] at this
    exact this
  · rename_i x
    split at h
    · rename_i b sz i o hx
      simp only [Option.some.injEq, Prod.mk.injEq, true_and] at h
      subst h
      have := hr x (by simp [Op.operands])
      rw [hx] at this
      have h2 := this
      rw [rel_ptr] at this
      obtain ⟨loc, g, h1, h3, h4, h5⟩ := this
      refine ⟨_, ?_, h2⟩
      simp [execOp, h4]
    · rename_i y hx
      simp only [Option.some.injEq, Prod.mk.injEq, true_and] at h
      subst h
      have := hr x (by simp [Op.operands])
      rw [hx] at this
      have h2 := this
      rw [rel_elem] at this
      obtain ⟨ad, ds, h4, _⟩ := this
      refine ⟨_, ?_, h2⟩
      simp [execOp, h4]
    · simp at h
  · rename_i b args argTypes
    split at h
    · split at h
      · rename_i x t ha ht
        have hargs : args = #[x] := by apply Array.ext'; simpa using ha
        have hts : argTypes = #[t] := by apply Array.ext'; simpa using ht
        subst hargs hts
        have hx := hr x (by simp [Op.operands, Call.operands])
        have key := len_ok (ty := ty) hT h hx
        obtain ⟨u, hu, hru⟩ := key
        exact ⟨u, by simp [execOp, resolve, invoke, builtin, hu], hru⟩
      · simp at h
    · have := mm_ok (P := P) true argTypes ty (always_some h) (us := args.toList.map rv) (All2_map (fun x hx => hr x (by simpa [Op.operands, Call.operands] using hx)))
      obtain ⟨u, hu, hru⟩ := this
      refine ⟨u, ?_, hru⟩
      simp only [if_true] at hu
      have he : (args.toList.map rv).toArray = args.map rv := by apply Array.ext'; simp
      rw [he] at hu
      simp [execOp, resolve, invoke, builtin, hu]
    · have := mm_ok (P := P) false argTypes ty (always_some h) (us := args.toList.map rv) (All2_map (fun x hx => hr x (by simpa [Op.operands, Call.operands] using hx)))
      obtain ⟨u, hu, hru⟩ := this
      refine ⟨u, ?_, hru⟩
      simp only [Bool.false_eq_true, if_false] at hu
      have he : (args.toList.map rv).toArray = args.map rv := by apply Array.ext'; simp
      rw [he] at hu
      simp [execOp, resolve, invoke, builtin, hu]
    · simp at h
  · simp at h
end
end Go.RX

/- The operations that make or write memory, regions, and a whole function: as a function on what is told. -/
set_option linter.unusedVariables false
namespace Go.RX

/-- What an operation does to all other values: nothing; a block is grown (who leads there else is lost); blocks are frozen (who leads there holds what they hold). -/
inductive Tr
  | id
  | kill (b : Nat)
  | fz (H : List Blk) (bs : List Nat)
  | gen (H : List Blk) (bs ks : List Nat)

def hasN : List Nat → Nat → Bool
  | [], _ => false
  | x :: xs, n => cond (Nat.beq x n) true (hasN xs n)

mutual
def mentions (b : Nat) : AV → Bool
  | .vec b' _ => Nat.beq b b'
  | .ref b' _ _ _ _ => Nat.beq b b'
  | .ptr b' _ _ _ => Nat.beq b b'
  | .agg l => mentionsL b l
  | .tup l => mentionsL b l
  | .iface _ x => mentions b x
  | .clo _ _ l => mentionsL b l
  | _ => false
def mentionsL (b : Nat) : List AV → Bool
  | [] => false
  | x :: xs => mentions b x || mentionsL b xs
end

def mentionsAny : List Nat → AV → Bool
  | [], _ => false
  | b :: bs, x => mentions b x || mentionsAny bs x

mutual
def frz (H : List Blk) (bs : List Nat) : AV → AV
  | .vec b sz => cond (hasN bs b) (view H (.vec b sz)) (.vec b sz)
  | .ref b sz off len cap => cond (hasN bs b) (view H (.ref b sz off len cap)) (.ref b sz off len cap)
  | .ptr b sz i o => cond (hasN bs b) .dead (.ptr b sz i o)
  | .agg l => .agg (frzL H bs l)
  | .tup l => .tup (frzL H bs l)
  | .iface t x => .iface t (frz H bs x)
  | .clo f n l => .clo f n (frzL H bs l)
  | x => x
def frzL (H : List Blk) (bs : List Nat) : List AV → List AV
  | [] => []
  | x :: xs => frz H bs x :: frzL H bs xs
end

def Tr.app : Tr → AV → AV
  | .id, x => x
  | .kill b, x => cond (mentions b x) .dead x
  | .fz H bs, x => frz H bs x
  | .gen H bs ks, x => cond (mentionsAny ks (frz H bs x)) .dead (frz H bs x)
def Tr.isId : Tr → Bool
  | .id => true
  | _ => false

def tauOf (H : List Blk) : List Nat → List Nat → Tr
  | [], [] => .id
  | ks, bs => .gen H bs ks

abbrev Tm := List (Nat × AV)
def tget : Tm → Nat → AV
  | [], _ => .dead
  | (n, x) :: r, t => cond (Nat.beq n t) x (tget r t)
def Tr.appT : Tr → Tm → Tm
  | .id, T => T
  | τ, T => T.map fun p => (p.1, τ.app p.2)

def constOf1 : Value → AV
  | .int k n => .int k n
  | .bool b => .bool b
  | .string s => .str s
  | .slice none 0 0 => .nilS
  | .nilIface => .nilI
  | .pointer none => .nilP
  | .nilFunc => .nilF
  | _ => .dead
def constOf : Value → AV
  | .agg cs => .agg (cs.toList.map constOf1)
  | v => constOf1 v
def opnd (T : Tm) : Operand → AV
  | .tmp t => tget T t
  | .const v => constOf v
  | .global g => globAV g
  | .func f => .fn f

section
variable {X : Type}
abbrev KK (X : Type) := Nat → Tr → AV → List Blk → Option X

def guardc (c : Bool) (x : Option X) : Option X := cond c x none

def rdN (l : List Int) (i : Nat) : Int := l.getD i 0

/-- An array's cells, element by element. -/
def chunks (H : List Blk) (et : ETy) (l : List AV) : List AV :=
  match et with
  | .st fs => (List.range (l.length / fs.length)).map fun j => pureV H et (.agg ((l.drop (j * fs.length)).take fs.length))
  | e => l.map (pureV H e)

def mkVar (tab : Tab) (H : List Blk) (t : TypeId) (x : AV) : Option (Nat × Blk) :=
  match tab t with
  | some d => match d.tk with
    | .int k => match x with
      | .int k' n => cond (ksame k k') (some (1, .I t k [n])) none
      | _ => none
    | .arr n e => match tab e, x with
      | some { tk := .int k, .. }, .agg l => cond (allInt k l && Nat.beq l.length n && Nat.blt 0 n) (some (1, .I t k (l.map AV.toInt))) none
      | some de, .agg l => cond (Nat.blt 0 n && Nat.beq (chunks H de.ety l).length n && Nat.beq (n * de.ety.sz) l.length && (chunks H de.ety l).all (wt de.ety)) (some (de.sz, .A t de.ety (chunks H de.ety l))) none
      | _, _ => none
    | _ => cond (wt d.ety (pureV H d.ety x)) (some (d.sz, .A t d.ety [pureV H d.ety x])) none
  | none => none

/-- The cells of structs, laid one behind another. -/
def cellsOfL (l : List AV) : List AV := (l.map AV.flds).flatten
def ldVal (tab : Tab) (H : List Blk) (t : TypeId) (x : AV) : Option (Bool × AV) :=
  match tab t with
  | some d => match x with
    | .elem (.agg l) => cond (d.tk.isAgg && Nat.beq l.length d.sz) (some (true, .agg l)) none
    | .elem .dead => none
    | .elem (.tup _) => none
    | .elem x => cond d.tk.isAgg none (some (true, x))
    | .ptr b sz i o => match hget H b with
      | .dead => none
      | .I _ k l => cond (Nat.beq sz 1 && Nat.beq o 0) (cond d.tk.isAgg (cond (Nat.beq i 0) (some (decide (l.length = d.sz), .agg (l.map (.int k)))) none) (some (true, .int k (rdN l i)))) none
      | .A _ e l => cond (Nat.beq sz e.sz) (match eta e (aget l i) with
        | .agg fs => cond d.tk.isAgg (cond (Nat.ble (o + d.sz) fs.length) (some (true, .agg ((fs.drop o).take d.sz))) (cond (Nat.beq i 0 && Nat.beq o 0) (some (decide (l.length * e.sz = d.sz), .agg (cellsOfL l))) none)) (match aget fs o with
          | .dead => none
          | .tup _ => none
          | .agg _ => none
          | y => some (true, y))
        | .dead => none
        | .tup _ => none
        | y => cond (d.tk.isAgg || !(Nat.beq o 0)) none (some (true, y))) none
    | _ => none
  | none => none

def asetN : List AV → Nat → AV → List AV
  | [], _, _ => []
  | _ :: xs, 0, y => y :: xs
  | x :: xs, n + 1, y => x :: asetN xs n y

/-- A store through an address: what it needs, the blocks behind it. -/
def stVal (tab : Tab) (H : List Blk) (t : TypeId) (a x : AV) : Option (Bool × List Blk) :=
  match tab t, a with
  | some d, .ptr b sz i o => match hget H b with
    | .dead => none
    | .I ty k l => cond (Nat.beq sz 1 && Nat.beq o 0) (match x with
      | .int k' n => cond (ksame k k' && Nat.beq d.sz 1) (some (true, hset H b (.I ty k (wrI l i n)))) none
      | .agg vs => cond (allInt k vs && Nat.beq i 0 && Nat.beq d.sz vs.length) (some (decide (l.length = vs.length), hset H b (.I ty k (vs.map AV.toInt)))) none
      | _ => none) none
    | .A ty e l => cond (Nat.beq sz e.sz) (match d.tk with
      | .arr _ _ => cond (Nat.beq o 0 && Nat.beq d.sz e.sz && wt e (pureV H e x)) (some (true, hset H b (.A ty e (l.set i (pureV H e x))))) (match x with
        | .agg vs => cond (Nat.beq i 0 && Nat.beq o 0 && Nat.beq d.sz vs.length && Nat.beq ((chunks H e vs).length * e.sz) vs.length && (chunks H e vs).all (wt e)) (some (decide (l.length = (chunks H e vs).length), hset H b (.A ty e (chunks H e vs)))) none
        | _ => none)
      | .st _ => cond (Nat.beq o 0 && Nat.beq d.sz e.sz && wt e (pureV H e x)) (some (true, hset H b (.A ty e (l.set i (pureV H e x))))) none
      | _ => match e with
        | .st fs => match fs[o]? with
          | some fe => cond (wt fe (pureV H fe x) && Nat.beq d.sz 1 && Nat.beq fe.sz 1) (some (true, hset H b (.A ty e (l.set i (.agg (asetN (etaL fs 0 (aget l i).flds) o (pureV H fe x))))))) none
          | none => none
        | e => cond (Nat.beq o 0 && Nat.beq d.sz e.sz && wt e (pureV H e x)) (some (true, hset H b (.A ty e (l.set i (pureV H e x))))) none) none
  | _, _ => none

def killH (H : List Blk) : List Nat → List Blk
  | [] => H
  | b :: bs => killH (hset H b .dead) bs
def trOf (H : List Blk) : List Nat → Tr
  | [] => .id
  | bs => .fz H bs

/-- The cells of a literal: zeros where nothing is said. -/
def fillS (z : AV) (n : Nat) : List (Nat × AV) → List AV
  | [] => List.replicate n z
  | (i, x) :: r => asetN (fillS z n r) i x

def mkRow (e : TypeId) (d : TyD) (l : List AV) : Option Blk :=
  match d.tk with
  | .int k => cond (allInt k l) (some (.I e k (l.map AV.toInt))) none
  | _ => cond (l.all (wt d.ety)) (some (.A e d.ety l)) none

def ascP : Nat → List (Nat × AV) → Bool
  | _, [] => true
  | n, (i, _) :: r => Nat.beq i n && ascP (n + 1) r

/-- What is appended or copied: integers, or other elements. -/
inductive Els
  | I (k : IntKind) (l : List Int)
  | A (e : ETy) (l : List AV)
  | nil
def elsOf (H : List Blk) (x : AV) : Option Els :=
  match view H x with
  | .ints k l => some (.I k l)
  | .list e l => some (.A e l)
  | .nilS => some .nil
  | _ => none

def limE (d : TyD) (n : Nat) : Bool := Nat.blt 0 d.bytes && decide ((n : Int) * (d.bytes : Int) ≤ 140737488355328)

def rowBlk (e : TypeId) (d : TyD) (x : Els) : Option Blk :=
  match mkRow e d [], x with
  | some (.I _ k _), .I k' l => cond (ksame k k' && Nat.beq d.sz 1) (some (.I e k l)) none
  | some (.A _ et _), .A et' l => cond (ETy.same et et' && Nat.beq d.sz et.sz) (some (.A e et l)) none
  | some (.I _ k _), .nil => cond (Nat.beq d.sz 1) (some (.I e k [])) none
  | some (.A _ et _), .nil => cond (Nat.beq d.sz et.sz) (some (.A e et [])) none
  | _, _ => none
def growB (b : Blk) (e : TypeId) (d : TyD) (x : Els) : Option Blk :=
  match b, x with
  | .I ty k l, .I k' l' => cond (ksame k k' && Nat.beq ty e && Nat.beq d.sz 1) (some (.I ty k (l ++ l'))) none
  | .A ty et l, .A et' l' => cond (ETy.same et et' && Nat.beq ty e && Nat.beq d.sz et.sz) (some (.A ty et (l ++ l'))) none
  | _, _ => none

def sameOp (l c : Operand) (n m : Int) : Bool :=
  match l, c with
  | .tmp i, .tmp j => Nat.beq i j
  | .const _, .const _ => decide (n = m)
  | _, _ => false

/-- A row of the call's own, or a piece of it, that a callee may write. -/
def winOf (H : List Blk) : AV → Option (Nat × Nat × Nat)
  | .vec b 1 => some (b, 0, (hget H b).len)
  | .ref b 1 off len _ => some (b, off, len)
  | _ => none

/-! ### calls that hand blocks on -/
/-- A row, laid in a block; what a block holds. -/
def rowB (ty : TypeId) (e : ETy) (x : AV) : Blk :=
  match e with
  | .int k => .I ty k x.asInts
  | e => .A ty e x.asList
def rowV : Blk → AV
  | .I _ k l => .ints k l
  | .A _ e l => .list e l
  | .dead => .dead
/-- A struct that holds slices: literal rows of such are told as lists at once. -/
def hasSl : ETy → Bool
  | .st fs => fs.any fun | .sl _ => true | _ => false
  | _ => false
def rowIs (ty : TypeId) (e : ETy) : Blk → Bool
  | .I ty' k' _ => Nat.beq ty ty' && ETy.same e (.int k')
  | .A ty' e' _ => Nat.beq ty ty' && ETy.same e e' && (match e with | .int _ => false | _ => true)
  | .dead => false
/-- The block that an argument leads to, and what is handed on. -/
def gArg (H : List Blk) (m : PM) (x : AV) : Option (Nat × AV) :=
  match m with
  | .v _ => none
  | .c ty e => match x with
    | .vec b sz => cond (Nat.beq sz e.sz && rowIs ty e (hget H b)) (some (b, rowV (hget H b))) none
    | _ => none
  | .p ty fs => match x with
    | .ptr b sz 0 0 => match hget H b with
      | .A ty' e' [z] => cond (Nat.beq sz fs.length && Nat.beq (realTy ty') ty && ETy.same (.st fs) e') (some (b, z)) none
      | _ => none
    | _ => none
def gIn (H : List Blk) : List PM → List AV → Option (List Nat × List AV)
  | [], [] => some ([], [])
  | .v e :: ms, x :: xs => match gIn H ms xs with
    | some (cs, zs) => some (cs, pureV H e x :: zs)
    | none => none
  | m :: ms, x :: xs => match gArg H m x with
    | some (b, z) => match gIn H ms xs with
      | some (cs, zs) => some (b :: cs, z :: zs)
      | none => none
    | none => none
  | _, _ => none
/-- The blocks that are looked at alone. -/
def gRefs : List PM → List AV → List Nat
  | .v _ :: ms, x :: xs => refOf x ++ gRefs ms xs
  | _ :: ms, _ :: xs => gRefs ms xs
  | _, _ => []
/-- The blocks that are given away. -/
def gGone : List PM → List Nat → List Nat
  | .v _ :: ms, cs => gGone ms cs
  | .c _ _ :: ms, c :: cs => c :: gGone ms cs
  | .p _ _ :: ms, _ :: cs => gGone ms cs
  | _, _ => []
def nodupN : List Nat → Bool
  | [] => true
  | x :: xs => !(hasN xs x) && nodupN xs
def apartN : List Nat → List Nat → Bool
  | [], _ => true
  | x :: xs, ys => !(hasN ys x) && apartN xs ys
/-- What is handed in, as the callee's blocks and values. -/
def gBlks : List PM → List AV → List Blk
  | .v _ :: ms, _ :: xs => gBlks ms xs
  | .c ty e :: ms, x :: xs => rowB ty e x :: gBlks ms xs
  | .p ty fs :: ms, x :: xs => .A (ty + 1000000) (.st fs) [x] :: gBlks ms xs
  | _, _ => []
def gArgs : Nat → List PM → List AV → List AV
  | j, .v _ :: ms, x :: xs => x :: gArgs j ms xs
  | j, .c _ e :: ms, _ :: xs => .vec j e.sz :: gArgs (j + 1) ms xs
  | j, .p _ fs :: ms, _ :: xs => .ptr j fs.length 0 0 :: gArgs (j + 1) ms xs
  | _, _, _ => []
/-- The kinds of what comes back: structs that were written, then answers. -/
def gOuts (ms : List PM) (rs : List RM) : List ETy :=
  ms.filterMap (fun | .p _ fs => some (.st fs) | _ => none) ++ rs.map RM.e
/-- The handed blocks, as they come back. -/
def gBack : List PM → List AV → List Blk
  | .v _ :: ms, ys => gBack ms ys
  | .c _ _ :: ms, ys => .dead :: gBack ms ys
  | .p ty fs :: ms, y :: ys => .A (ty + 1000000) (.st fs) [y] :: gBack ms ys
  | _, _ => []
def gRest : List PM → List AV → List AV
  | .p _ _ :: ms, _ :: ys => gRest ms ys
  | .p _ _ :: _, [] => []
  | _ :: ms, ys => gRest ms ys
  | [], ys => ys
def gNew : List RM → List AV → List Blk
  | .v _ :: rs, _ :: ys => gNew rs ys
  | .o ty e :: rs, y :: ys => rowB ty e y :: gNew rs ys
  | _, _ => []
def gRes : Nat → List RM → List AV → List AV
  | n, .v _ :: rs, y :: ys => y :: gRes n rs ys
  | n, .o _ e :: rs, _ :: ys => .vec n e.sz :: gRes (n + 1) rs ys
  | _, _, _ => []
def tupOf : List AV → AV
  | [z] => z
  | zs => .tup zs
/-- A block as it comes back, under its own type. -/
def retype (old new : Blk) : Blk :=
  match old, new with
  | .A ty _ _, .A _ e l => .A ty e l
  | .I ty _ _, .I _ k l => .I ty k l
  | _, x => x
def hsetL (H : List Blk) : List Nat → List Blk → List Blk
  | b :: bs, x :: xs => hsetL (hset H b (retype (hget H b) x)) bs xs
  | _, _ => H

/-! ### closures -/
def isPtr : AV → Bool
  | .ptr _ _ _ _ => true
  | _ => false
def uncloL (g : FuncId) (n : Nat) : List AV → Option (List AV)
  | [] => none
  | x :: xs => match x, xs with
    | .clo g' 0 l, [] => cond (Nat.beq g g' && Nat.beq l.length n && l.all isPtr) (some l) none
    | x, xs => match uncloL g n xs with
      | some ys => some (x :: ys)
      | none => none
def unclo : Option (FuncId × Nat) → List AV → Option (List AV)
  | none, xs => some xs
  | some (g, n), xs => uncloL g n xs
def packV : Option (FuncId × Nat) → List Value → List Value
  | none, vs => vs
  | some (g, n), vs => vs.take (vs.length - n) ++ [.func (.func g) #[] (vs.drop (vs.length - n)).toArray]
/-- A variable that holds a number, told as a struct of one part. -/
def retell (H : List Blk) : AV → Option (List Blk)
  | .ptr b 1 0 0 => match hget H b with
    | .I ty k [n] => cond (isMk ty) none (some (hset H b (.A ty (.st [.int k]) [.agg [.int k n]])))
    | _ => none
  | _ => none
def retellL (H : List Blk) : List AV → Option (List Blk)
  | [] => none
  | x :: xs => match retell H x with
    | some H' => match retellL H' xs with
      | some H'' => some H''
      | none => some H'
    | none => retellL H xs

/-- Operations that look at no memory. -/
def stillOp : Op → Bool
  | .move _ | .assign _ | .binOp .. | .unOp .. | .convert .. | .extract .. | .build .. | .field .. | .index .. => true
  | _ => false

/-- Bytes, as a text. -/
def bytesOf (tab : Tab) (H : List Blk) (src dst : TypeId) (x : AV) : Option AV :=
  match tab src, tab dst with
  | some { tk := .slice e, .. }, some { tk := .str, .. } => match tab e with
    | some { tk := .int .u8, .. } => match view H x with
      | .ints .u8 l => some (.str (strOfI l))
      | .nilS => some (.str (strOfI []))
      | _ => none
    | _ => none
  | _, _ => none

/-- The bytes of a text. -/
def bytesI (s : ByteArray) : List Int := s.data.toList.map fun b => (b.toNat : Int)
/-- A text, as bytes: a new row. -/
def strBytes (tab : Tab) (src dst : TypeId) (x : AV) : Option (TypeId × ByteArray) :=
  match tab src, tab dst with
  | some { tk := .str, .. }, some { tk := .slice e, .. } => match tab e with
    | some { tk := .int .u8, .. } => match x with
      | .str s => some (e, s)
      | _ => none
    | _ => none
  | _, _ => none

/-- One operation: K is handed what it touches (0 nothing, 1 it reads a block of the call's own, 2 it makes or writes one, 3 it turns other values), what it does to other values, its value, the blocks. -/
def evOp (tab : Tab) (ct : FuncId → Option Ctr) (ev : Operand → AV) (H : List Blk) (o : Oper) (K : KK X) : Option X :=
  match o.op with
  | .pick c a b => match ev c with
    | .bool t => cond t (K 0 .id (ev a) H) (K 0 .id (ev b) H)
    | _ => none
  | .load t a => match ldVal tab H t (ev a) with
    | some (c, v) => guardc c (K (cond (isRef (ev a)) 1 0) .id v H)
    | none => none
  | .store t a x => match stVal tab H t (ev a) (ev x) with
    | some (c, H') => cond (isRef (ev a)) (match refOf (ev x) with
      | [] => guardc c (K 2 .id (.tup []) H')
      | bs => cond (hasN bs (match ev a with | .ptr b _ _ _ => b | _ => 0)) none (guardc c (K 3 (.fz H bs) (.tup []) (killH H' bs)))) none
    | none => none
  | .alloc t => match tab t with
    | some d => match refOf d.zero, mkVar tab H t d.zero with
      | [], some (sz, blk) => K 2 .id (.ptr H.length sz 0 0) (H ++ [blk])
      | _, _ => none
    | none => none
  | .box t x => match refOf (ev x), mkVar tab H t (ev x) with
    | [], some (sz, blk) => K 2 .id (.ptr H.length sz 0 0) (H ++ [blk])
    | _, _ => none
  | .makeSlice t l c => match tab t, ev l, ev c with
    | some { tk := .slice e, .. }, .int .i64 n, .int .i64 m => match tab e with
      | some d => cond (Nat.blt 0 d.bytes) (match mkRow e d [fitE d.ety d.zero] with
        | some (.I _ k [z]) => guardc (decide (0 ≤ n) && decide (n * d.bytes ≤ 281474976710656)) (cond (sameOp l c n m) (K 2 .id (.vec H.length 1) (H ++ [.I e k (List.replicate n.toNat z)])) none)
        | some (.A _ et [z]) => guardc (decide (0 ≤ n) && decide (n * d.bytes ≤ 281474976710656)) (cond (sameOp l c n m) (K 2 .id (.vec H.length et.sz) (H ++ [.A e et (List.replicate n.toNat z)])) none)
        | _ => none) none
      | none => none
    | _, _, _ => none
  | .buildSlice t len parts => match tab t with
    | some { tk := .slice e, .. } => match tab e with
      | some d =>
        let ps := parts.toList.map fun p => (p.1, pureV H d.ety (ev p.2))
        let bs := (parts.toList.map fun p => refOf (ev p.2)).flatten
        cond (ascP 0 ps && Nat.beq ps.length len && Nat.ble (len * d.sz) 16777216) (match mkRow e d (ps.map (·.2)) with
          | some blk => match bs with
            | [] => cond (hasSl d.ety) (K 0 .id (rowV blk) H) (K 2 .id (.vec H.length d.sz) (H ++ [blk]))
            | bs => K 3 (.fz H bs) (.vec H.length d.sz) (killH H bs ++ [blk])
          | none => none) none
      | none => none
    | _ => none
  | .call { callee := .builtin .append, args, argTypes } => match args.toList, argTypes.toList with
    | [s, x], [t, t2] => match tab t with
      | some { tk := .slice e, .. } => match tab e, elsOf H (ev x) with
        | some d, some els => cond (Nat.beq t t2) (match ev s with
          | .nilS => match rowBlk e d els with
            | some blk => guardc (limE d blk.len) (K 2 .id (.vec H.length d.sz) (H ++ [blk]))
            | none => none
          | .vec b sz => match growB (hget H b) e d els with
            | some blk => cond (Nat.beq sz d.sz) (guardc (limE d blk.len) (K 3 (.kill b) (.vec b sz) (hset H b blk))) none
            | none => none
          | _ => none) none
        | _, _ => none
      | _ => none
    | _, _ => none
  | .call { callee := .builtin .copy, args, argTypes } => match args.toList, argTypes.toList with
    | [s, x], [t, t2] => match tab t with
      | some { tk := .slice e, .. } => match tab e, elsOf H (ev x) with
        | some d, some (.I k l') => match ev s with
          | .vec b sz => match hget H b with
            | .I ty k' l => cond (ksame k k' && Nat.beq sz 1 && Nat.beq d.sz 1) (K 2 .id (.int .i64 (min l'.length l.length : Nat)) (hset H b (.I ty k (splice l 0 (l'.take l.length))))) none
            | _ => none
          | .ref b sz off len _ => match hget H b with
            | .I ty k' l => cond (ksame k k' && Nat.beq sz 1 && Nat.beq d.sz 1) (guardc (decide (off + len ≤ l.length)) (K 2 .id (.int .i64 (min l'.length len : Nat)) (hset H b (.I ty k (splice l off (l'.take len)))))) none
            | _ => none
          | _ => none
        | _, _ => none
      | _ => none
    | _, _ => none
  | .call { callee := .value f, args, .. } => match ev f with
    | .fn g => match ct g with
      | some C => match C.gm with
       | some (ms, rs) => match unclo C.cl (args.toList.map ev) with
        | none => none
        | some xs => match gIn H ms xs with
         | none => none
         | some (cs, zs) =>
          cond (((ms.zip zs).all fun p => wt p.1.e p.2) && nodupN cs && apartN cs (gRefs ms xs))
            ((C.fg zs).bind fun t =>
              K 3 (tauOf H (gGone ms cs) (cond C.scal [] (gRefs ms xs)))
                (tupOf (gRes H.length rs (gRest ms (C.gre t))))
                (killH (hsetL H cs (gBack ms (C.gre t))) (cond C.scal [] (gRefs ms xs)) ++ gNew rs (gRest ms (C.gre t)))) none
       | none => match C.win with
        | none =>
          let xs := args.toList.map ev
          let ys := (C.ps.zip xs).map fun p => pureV H p.1 p.2
          let bs := (xs.map refOf).flatten
          cond (Nat.beq xs.length C.ps.length && ((C.ps.zip ys).all fun p => wt p.1 p.2))
            ((C.f ys).bind fun t => match C.scal, bs with
              | true, [] => K (match C.new t with | [] => 0 | _ => 2) .id (C.res t H.length) (H ++ C.new t)
              | true, _ => K (match C.new t with | [] => 1 | _ => 2) .id (C.res t H.length) (H ++ C.new t)
              | false, [] => K (match C.new t with | [] => 0 | _ => 2) .id (C.res t H.length) (H ++ C.new t)
              | false, bs => K 3 (.fz H bs) (C.res t H.length) (killH H bs ++ C.new t)) none
        | some (te, kw) => match args.toList.map ev with
          | [] => none
          | w :: xs =>
            let ys := (C.ps.zip xs).map fun p => pureV H p.1 p.2
            match winOf H w with
            | none => none
            | some (b, off, len) => match hget H b with
              | .I ty k' l =>
                cond (!(isMk ty) && ksame kw k' && Nat.beq (realTy ty) te && Nat.beq xs.length C.ps.length && ((C.ps.zip ys).all fun p => wt p.1 p.2) && !(hasN (xs.map refOf).flatten b))
                  (guardc (decide (off + len ≤ l.length)) ((C.fw ((l.drop off).take len) ys).bind fun p => K 2 .id (C.res p.2 H.length) (hset H b (.I ty k' (splice l off p.1))))) none
              | _ => none
      | none => none
    | .clo g 0 l => match ct g with
      | some C => match C.gm, C.cl with
       | some (ms, rs), none => cond (l.all isPtr) (match gIn H ms (args.toList.map ev ++ l) with
         | none => none
         | some (cs, zs) =>
          cond (((ms.zip zs).all fun p => wt p.1.e p.2) && nodupN cs && apartN cs (gRefs ms (args.toList.map ev ++ l)))
            ((C.fg zs).bind fun t =>
              K 3 (tauOf H (gGone ms cs) (cond C.scal [] (gRefs ms (args.toList.map ev ++ l))))
                (tupOf (gRes H.length rs (gRest ms (C.gre t))))
                (killH (hsetL H cs (gBack ms (C.gre t))) (cond C.scal [] (gRefs ms (args.toList.map ev ++ l))) ++ gNew rs (gRest ms (C.gre t)))) none) none
       | _, _ => none
      | none => none
    | _ => none
  | .makeFunc (.func g) first caps => match first.toList with
    | [] => cond ((caps.toList.map ev).all isPtr) (match retellL H (caps.toList.map ev) with
      | none => K 0 .id (.clo g 0 (caps.toList.map ev)) H
      | some H' => K 2 .id (.clo g 0 (caps.toList.map ev)) H') none
    | _ => none
  | .convert src dst x => match bytesOf tab H src dst (ev x) with
    | some v => K (cond (isRef (ev x)) 1 0) .id v H
    | none => match pvConv tab src dst (ev x) with
      | some v => K 0 .id v H
      | none => match strBytes tab src dst (ev x) with
        | some (e, s) => K 2 .id (.vec H.length 1) (H ++ [.I (e + 2000000) .u8 (bytesI s)])
        | none => none
  | op => match pv tab ev H op with
    | some (c, v) => guardc c (match stillOp op with | true => K 0 .id v H | false => K 1 .id v H)
    | none => none

/-! ### regions -/
def dstOf (ops : List Oper) (j : Nat) : Option Nat := (ops[j]?).bind (·.dst)

def tput (N : Nat) (T : Tm) (d : Option Nat) (v : AV) : Option Tm :=
  match d with
  | none => some T
  | some d => cond (Nat.blt d N) (some ((d, v) :: T)) none

inductive Form
  | same
  | view
  | fit (e : ETy)
  | vec (e : TypeId)
structure Env (X : Type) where
  tab : Tab
  ct : FuncId → Option Ctr
  N : Nat
  res : List ResultVar
  fin : AV → List Blk → Option X
  fm : List (Nat × Form) := []
  /-- Functions that do nothing when they are deferred and nothing has panicked. -/
  nop : FuncId → Bool := fun _ => false
  /-- Literal rows are told as lists at once. -/
  lit : Bool := false

def optC {α : Type} (x : Option α) (K : α → Option X) : Option X :=
  match x with
  | some a => K a
  | none => none

/-! ### variables of a region whose operations may come in any order: their blocks have places beforehand -/
def isAlloc (o : Oper) : Bool :=
  match o.op, o.guard with
  | .alloc _, none => true
  | _, _ => false
def nAlloc (l : List Oper) : Nat := (l.filter isAlloc).length
def slotOf (base : Nat) (all rest : List Oper) : Nat := base + (nAlloc all - nAlloc rest)
def isLocal (o : Oper) : Bool :=
  match o.op with
  | .load .. | .indexAddr .. | .fieldAddr .. | .slice .. | .nilCheck _ => true
  | .call { callee := .builtin .len, .. } => true
  | _ => false
def touches (b n : Nat) (ev : Operand → AV) (o : Oper) : Bool := o.op.operands.toList.any fun x => (List.range n).any fun i => mentions (b + i) (ev x)
def isDead : Blk → Bool
  | .dead => true
  | _ => false
def allocAt (tab : Tab) (H : List Blk) (r : Nat) (o : Oper) (K : KK X) : Option X :=
  match o.op with
  | .alloc t => match tab t with
    | some d => match refOf d.zero, mkVar tab [] t d.zero with
      | [], some (sz, blk) => cond (Nat.blt r H.length && isDead (hget H r)) (K 5 .id (.ptr r sz 0 0) (hset H r blk)) none
      | _, _ => none
    | none => none
  | _ => none
/-- Places that are kept stay empty. -/
def keepDead (b n : Nat) (H H' : List Blk) : Bool := (List.range n).all fun i => !(isDead (hget H (b + i))) || isDead (hget H' (b + i))
def litVal (lit : Bool) (tab : Tab) (ev : Operand → AV) (H : List Blk) (o : Oper) : Option AV :=
  match lit with
  | false => none
  | true => match o.op with
    | .buildSlice t len parts => match tab t with
      | some { tk := .slice e, .. } => match tab e with
        | some d => cond (ascP 0 (parts.toList.map fun p => (p.1, pureV H d.ety (ev p.2))) && Nat.beq (parts.toList.map fun p => (p.1, pureV H d.ety (ev p.2))).length len && Nat.ble (len * d.sz) 16777216) (match mkRow e d ((parts.toList.map fun p => (p.1, pureV H d.ety (ev p.2))).map (·.2)) with
          | some blk => match (parts.toList.map fun p => refOf (ev p.2)).flatten with
            | [] => some (rowV blk)
            | _ => none
          | none => none) none
        | none => none
      | _ => none
    | _ => none
def evOpR (E : Env X) (base : Option Nat) (all rest : List Oper) (ev : Operand → AV) (H : List Blk) (o : Oper) (K : KK X) : Option X :=
  match litVal E.lit E.tab ev H o with
  | some v => K 0 .id v H
  | none => match base with
  | none => evOp E.tab E.ct ev H o K
  | some b => cond (isAlloc o) (allocAt E.tab H (slotOf b all (o :: rest)) o K)
    (cond (isLocal o && !(touches b (nAlloc all) ev o)) (evOp E.tab E.ct ev H o fun kd τ v H' => K (cond (Nat.beq kd 1) 6 kd) τ v H')
      (evOp E.tab E.ct ev H o fun kd τ v H' => cond (keepDead b (nAlloc all) H H') (K (cond (Nat.beq kd 1) 2 kd) τ v H') none))
def evOps (E : Env X) (base : Option Nat) (all : List Oper) : List Oper → Tm → List Blk → List Nat → (Tm → List Blk → List Nat → Option X) → Option X
  | [], T, H, ks, K => K T H ks
  | o :: rest, T, H, ks, K =>
    let exec := fun (T : Tm) => evOpR E base all rest (opnd T) H o fun kd τ v H' => optC (tput E.N (τ.appT T) o.dst v) fun T' => evOps E base all rest T' H' (ks ++ [kd]) K
    let skip := fun (T : Tm) => optC (tput E.N T o.dst (.tup [])) fun T' => evOps E base all rest T' H (ks ++ [0]) K
    match o.guard with
    | none => exec T
    | some (j, b) => match dstOf all j with
      | none => none
      | some d => match tget T d with
        | .bool c => match b with
          | true => cond c (exec ((d, .bool true) :: T)) (skip ((d, .bool false) :: T))
          | false => cond c (skip ((d, .bool true) :: T)) (exec ((d, .bool false) :: T))
        | .tup [] => skip T
        | _ => none

/-! ### what may be done in any order -/
def befOf (acc : List (List Nat)) (o : Option Oper) : List Nat :=
  match o with
  | some o => (o.after.toList.filter (Region.binds .any)).flatMap fun e => e.on :: (acc[e.on]?).getD []
  | none => []
def befN (ops : List Oper) : Nat → List (List Nat)
  | 0 => []
  | n + 1 => befN ops n ++ [befOf (befN ops n) ops[n]?]
def bef (ops : List Oper) : List (List Nat) := befN ops ops.length
def readsOf (all : List Oper) (o : Oper) : List Nat :=
  (o.op.operands.toList.filterMap fun | .tmp t => some t | _ => none) ++ (match o.guard with | some (j, _) => (dstOf all j).toList | none => [])
def apartD (d : Option Nat) (l : List Nat) : Bool :=
  match d with
  | none => true
  | some d => !(hasN l d)
def w56 (a : Nat) : Bool := Nat.beq a 5 || Nat.beq a 6
def clashK (a b : Nat) : Bool := cond (w56 a && (Nat.beq b 0 || w56 b)) false (cond (w56 b && Nat.beq a 0) false ((Nat.beq a 2 && !(Nat.beq b 0)) || (Nat.beq b 2 && !(Nat.beq a 0)) || Nat.blt 2 a || Nat.blt 2 b))
def pairsOk (all : List Oper) (bs : List (List Nat)) (ks : List Nat) : Bool :=
  (List.range all.length).all fun j => (List.range j).all fun i =>
    hasN ((bs[j]?).getD []) i || (match all[i]?, all[j]? with
      | some a, some b => apartD a.dst (readsOf all b ++ b.dst.toList) && apartD b.dst (readsOf all a) && !(clashK ((ks[i]?).getD 3) ((ks[j]?).getD 3))
      | _, _ => false)
def edgesOk (ops : List Oper) : Bool :=
  (List.range ops.length).all fun j => match ops[j]? with
    | some o => o.after.toList.all fun e => !(Region.binds .any e) || Nat.blt e.on j
    | none => false
def noSel (ops : List Oper) : Bool := ops.all fun o => match o.op with | .select .. => false | _ => true
def orderOk (ops : List Oper) (ks : List Nat) : Bool :=
  Nat.beq ks.length ops.length && edgesOk ops && noSel ops && pairsOk ops (bef ops) ks

/-- Is there a variable that is made before or behind something else, as it comes? -/
def freeAlloc (ops : List Oper) : Bool :=
  (List.range ops.length).any fun j => (List.range j).any fun i => ((match ops[i]? with | some o => isAlloc o | none => false) || (match ops[j]? with | some o => isAlloc o | none => false)) && !(hasN (((bef ops)[j]?).getD []) i)
/-! ### the whole -/
/-! blocks that lie too far are moved to free places -/
def renN (b s c : Nat) : Nat := cond (Nat.beq b c) s c
mutual
def ren (b s : Nat) : AV → AV
  | .vec c sz => .vec (renN b s c) sz
  | .ref c sz off len cap => .ref (renN b s c) sz off len cap
  | .ptr c sz i o => .ptr (renN b s c) sz i o
  | .agg l => .agg (renL b s l)
  | .tup l => .tup (renL b s l)
  | .iface t x => .iface t (ren b s x)
  | .clo f n l => .clo f n (renL b s l)
  | x => x
def renL (b s : Nat) : List AV → List AV
  | [] => []
  | x :: xs => ren b s x :: renL b s xs
end
def firstFar (k : Nat) (T : Tm) (H : List Blk) : Option Nat := ((List.range (H.length - k)).map (· + k)).find? fun b => (T.any fun p => mentions b p.2) && !(hget H b).pinned
def freeSlot (k : Nat) (T : Tm) (H : List Blk) : Option Nat := (List.range (k - (k - H.length))).find? fun s => !(T.any fun p => mentions s p.2) && !(hget H s).pinned
def compact : Nat → Nat → Tm → List Blk → Tm × List Blk
  | 0, _, T, H => (T, H)
  | n + 1, k, T, H => match firstFar k T H with
    | none => (T, H)
    | some b => match freeSlot k T H with
      | none => (T, H)
      | some s => compact n k (T.map fun p => (p.1, ren b s p.2)) (hset (hset H s (hget H b)) b .dead)
structure Head where
  live : List (Nat × Form)
  keep : Nat

def normF (tab : Tab) : List (Nat × Form) → Tm → List Blk → Option (Tm × List Blk)
  | [], T, H => some (T, H)
  | (t, f) :: r, T, H => match f with
    | .same => normF tab r T H
    | .view => match refOf (tget T t) with
      | [] => normF tab r T H
      | bs => normF tab r ((Tr.fz H bs).appT T) (killH H bs)
    | .fit e => match refOf (tget T t) with
      | [] => normF tab r ((t, fitE e (tget T t)) :: T) H
      | bs => normF tab r ((t, fitE e (tget ((Tr.fz H bs).appT T) t)) :: (Tr.fz H bs).appT T) (killH H bs)
    | .vec e => match tget T t with
      | .nilS => match tab e with
        | some d => match mkRow e d [] with
          | some blk => normF tab r ((t, .vec H.length d.sz) :: T) (H ++ [blk])
          | none => none
        | none => none
      | .ref b sz 0 n _ => cond (!(hget H b).pinned && (hget H b).live && Nat.beq sz (hget H b).esz) (normF tab r ((t, .vec b sz) :: (Tr.kill b).appT T) (hset H b ((hget H b).cut n))) (normF tab r T H)
      | _ => normF tab r T H

def norm (tab : Tab) (h : Head) (T : Tm) (H : List Blk) (K : Tm → List Blk → Option X) : Option X :=
  match normF tab h.live T H with
  | none => none
  | some (T, H) =>
    match compact 8 h.keep (h.live.map fun p => (p.1, tget T p.1)) H with
    | (T', H) => cond (T'.all fun p => !(mentionsAny ((List.range (H.length - h.keep)).map (· + h.keep)) p.2)) (K T' (H.take h.keep)) none

def firstId : Code → Nat
  | .region id _ _ => id
  | .seq a _ => firstId a
  | .block _ c => firstId c
  | .loop c => firstId c
  | .scope c => firstId c
  | _ => 999999

/-- A closure that is made and deferred, in a region of its own. -/
def deferOf : List Oper → Option (FuncId × Nat)
  | [o1, o2] => match o1.op, o1.dst, o1.guard, o2.op, o2.dst, o2.guard with
    | .makeFunc (.func g) f _, some d, none, .defer { callee := .value (.tmp d'), args := as, argTypes := _ }, none, none => match f.toList, as.toList with
      | [], [] => cond (Nat.beq d d') (some (g, d)) none
      | _, _ => none
    | _, _, _, _, _, _ => none
  | _ => none

abbrev Rec (X : Type) := List Item → Tm → List Blk → Option X

def notTup : AV → Bool
  | .tup _ => false
  | _ => true
/-- The answers, out of temporaries or of variables. -/
def rvals (tab : Tab) (T : Tm) (H : List Blk) : List ResultVar → (List AV → Option X) → Option X
  | [], K => K []
  | .tmp t :: r, K => rvals tab T H r fun vs => K (tget T t :: vs)
  | .cell a ty :: r, K => match ldVal tab H ty (tget T a) with
    | some (c, v) => guardc c (rvals tab T H r fun vs => K (v :: vs))
    | none => none
def fini1 (E : Env X) (T : Tm) (H : List Blk) : Option X :=
  rvals E.tab T H E.res fun vs => match vs with
    | [v] => E.fin v H
    | vs => cond (vs.all notTup) (E.fin (.tup vs) H) none
def fini (E : Env X) (T : Tm) (H : List Blk) : Option X :=
  match normF E.tab E.fm T H with
  | some (T, H) => fini1 E T H
  | none => none

def evT (E : Env X) (hint : Nat → Option Head) (rec : Rec X) : Nat → Bool → Rec X
  | 0, _, _, _, _ => none
  | n + 1, sk, todo, T, H =>
    match todo with
    | [] => fini E T H
    | .code .ret :: _ => fini E T H
    | .code .skip :: k => evT E hint rec n false k T H
    | .code (.label l) :: k => match cond sk none (hint (1000000 + l)) with
      | some h => norm E.tab h T H fun T H => rec (.code (.label l) :: k) T H
      | none => evT E hint rec n false k T H
    | .code (.seq a b) :: k => evT E hint rec n false (.code a :: .code b :: k) T H
    | .code (.cond c a b) :: k => match opnd T c with
      | .bool t => match c with
        | .tmp d => cond t (evT E hint rec n false (.code a :: k) ((d, .bool true) :: T) H) (evT E hint rec n false (.code b :: k) ((d, .bool false) :: T) H)
        | _ => cond t (evT E hint rec n false (.code a :: k) T H) (evT E hint rec n false (.code b :: k) T H)
      | _ => none
    | .code (.block id c) :: k => evT E hint rec n false (.code c :: .inBlock id :: k) T H
    | .code (.scope c) :: k => evT E hint rec n false (.code c :: .inScope c :: k) T H
    | .code (.loop c) :: k => match hint (2 * firstId c) with
      | some h => norm E.tab h T H fun T H => rec (.code c :: .inLoop c :: k) T H
      | none => evT E hint rec n false (.code c :: .inLoop c :: k) T H
    | .inLoop c :: k => match hint (2 * firstId c) with
      | some h => norm E.tab h T H fun T H => rec (.code c :: .inLoop c :: k) T H
      | none => evT E hint rec n false (.code c :: .inLoop c :: k) T H
    | .code (.exit id) :: k => match exitTo id k with
      | some k' => evT E hint rec n false k' T H
      | none => none
    | .code (.goto l) :: k => match gotoIn l k with
      | some k' => evT E hint rec n false k' T H
      | none => none
    | .code (.region id ops draw) :: k => match cond sk none (hint (2 * id + 1)) with
      | some h => norm E.tab h T H fun T H => rec (.code (.region id ops draw) :: k) T H
      | none => match deferOf ops.toList with
       | some (g, d) => cond (E.nop g && !draw && Nat.blt d E.N) (evT E hint rec n false k ((d, .dead) :: T) H) none
       | none => match draw && ops.toList.any isAlloc && freeAlloc ops.toList with
        | false => evOps E none ops.toList ops.toList T H [] fun T H ks => cond (!draw || orderOk ops.toList ks) (evT E hint rec n false k T H) none
        | true => evOps E (some H.length) ops.toList ops.toList T (H ++ List.replicate (nAlloc ops.toList) .dead) [] fun T H ks => cond (!draw || orderOk ops.toList ks) (evT E hint rec n false k T H) none
    | .inBlock _ :: k => evT E hint rec n false k T H
    | .inScope _ :: k => evT E hint rec n false k T H
    | _ => none

/-- Behind a head: k rounds more. -/
def evK (E : Env X) (hint : Nat → Option Head) (n : Nat) : Nat → Rec X
  | 0 => fun _ _ _ => none
  | k + 1 => evT E hint (evK E hint n k) n true
def evM (E : Env X) (hint : Nat → Option Head) (n k : Nat) : Rec X := evT E hint (evK E hint n k) n false
end
end Go.RX
