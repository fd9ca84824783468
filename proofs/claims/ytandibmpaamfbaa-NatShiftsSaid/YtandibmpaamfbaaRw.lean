/- Contracts from a function's run. -/
import Derived.Test.YtandibmpaamfbaaRv
set_option linter.unusedVariables false
set_option linter.unusedSimpArgs false
namespace Go.RX

def T0 : Nat → List AV → Tm
  | _, [] => []
  | i, x :: xs => (i, x) :: T0 (i + 1) xs

def tupOf : List AV → AV
  | [z] => z
  | zs => .tup zs
def untup : AV → List AV
  | .tup [_] => [.dead]
  | .tup zs => zs
  | z => [z]
def ofL : List Value → Value
  | [v] => v
  | vs => .tuple vs.toArray
theorem ofL_ne {us : List Value} (h : us.length ≠ 1) : ofL us = .tuple us.toArray := by
  unfold ofL
  split
  · simp at h
  · rfl

def scalE : ETy → Bool
  | .int _ => true
  | .bool => true
  | .str => true
  | _ => false

/-- What a function answers, as a Lean value. -/
structure Out (T : Type) where
  es : List ETy
  un : List AV → Option T
  re : T → List AV

def Out.Ok {T : Type} (o : Out T) : Prop := ∀ zs t, zs.length = o.es.length → ((o.es.zip zs).all fun p => wt p.1 p.2) = true → o.un zs = some t → o.re t = zs

def Out.pure {T : Type} (o : Out T) (H : List Blk) (y : AV) : List AV := (o.es.zip (untup y)).map fun p => pureV H p.1 p.2

def Out.fin {T : Type} (o : Out T) (y : AV) (H : List Blk) : Option T :=
  cond (Nat.beq (untup y).length o.es.length && ((o.es.zip (o.pure H y)).all fun p => wt p.1 p.2)) (o.un (o.pure H y)) none

def mkC {T : Type} (ps : List ETy) (o : Out T) (f : List AV → Option T) : Ctr where
  ps := ps
  T := T
  f := f
  res t _ := tupOf (o.re t)
  new _ := []
  scal := o.es.all scalE

def blocksOf (H : List Blk) : List Nat := List.range H.length

section
variable {P : Program} {W W' : World} {ok ok' : Nat → Prop} {ρ ρ' : Nat → Option Nat} {H H' : List Blk} {g : FuncId} {X : Type} {E : Env X} {x : X}

theorem T0_get : ∀ (xs : List AV) (i t : Nat), tget (T0 i xs) t = .dead ∨ ∃ y, xs[t - i]? = some y ∧ i ≤ t ∧ tget (T0 i xs) t = y
  | [], i, t => .inl rfl
  | y :: xs, i, t => by
    simp only [T0, tget]
    cases hb : Nat.beq i t
    · rcases T0_get xs (i + 1) t with h | ⟨z, hz, hi, he⟩
      · exact .inl h
      · refine .inr ⟨z, ?_, by omega, he⟩
        rw [show t - i = (t - (i + 1)) + 1 from by omega]
        simpa using hz
    · have := Nat.eq_of_beq_eq_true hb
      subst this
      exact .inr ⟨y, by simp, Nat.le_refl _, rfl⟩

theorem All2_get {α β : Type} {p : α → β → Prop} : ∀ {as : List α} {bs : List β} (h : All2 p as bs) {i : Nat} {a : α}, as[i]? = some a → ∃ b, bs[i]? = some b ∧ p a b
  | a :: as, _, ⟨b, bs, rfl, h, _⟩, 0, a', e => by
    simp only [List.getElem?_cons_zero, Option.some.injEq] at e
    subst e
    exact ⟨b, rfl, h⟩
  | a :: as, _, ⟨b, bs, rfl, _, h⟩, i + 1, a', e => by
    simp only [List.getElem?_cons_succ] at e ⊢
    exact All2_get h e
  | [], _, _, i, a', e => by simp at e

theorem All2_len {α β : Type} {p : α → β → Prop} : ∀ {as : List α} {bs : List β}, All2 p as bs → as.length = bs.length
  | [], _, e => by rw [e]; rfl
  | a :: as, _, ⟨b, bs, rfl, _, h⟩ => by simp [All2_len h]

theorem heapOk_nil (h : ∀ g, ok g → g < W.heap.size) : HeapOk W ok ρ [] where
  blk b := by simp [hget, BlkOk]
  inj b b' g hl := by simp [hget, Blk.live] at hl
  apart b g hl := by simp [hget, Blk.live] at hl
  lt := h

theorem sit_start {fn : Func} {xs : List AV} {vs : List Value} (hlt : ∀ g, ok g → g < W.heap.size) (hv : All2 (Rel0 W ok noLoc) xs vs) (hn : xs.length ≤ fn.ntmps) :
    Sit fn.ntmps W ok (fun _ => none) (T0 0 xs) [] { tmps := vs.toArray ++ Array.replicate (fn.ntmps - vs.toArray.size) undef, defers := [] } := by
  have hlen := All2_len hv
  refine ⟨fun t => ?_, heapOk_nil hlt, by simp; omega, rfl⟩
  rcases T0_get xs 0 t with h | ⟨y, hy, _, he⟩
  · rw [h]; exact rel_dead
  · rw [he]
    obtain ⟨v, hv, hr⟩ := All2_get hv hy
    have : (vs.toArray ++ Array.replicate (fn.ntmps - vs.toArray.size) undef).getD t undef = v := by
      rw [Nat.sub_zero] at hv
      have hlt := (List.getElem?_eq_some_iff.1 hv).1
      rw [Array.getD_eq_getD_getElem?, Array.getElem?_append_left (by simpa using hlt)]
      simp [hv]
    rw [this]
    refine Rel_of_Rel0 (lift_mono (fun cs hc => X_mono (Later.refl _ _) (fun _ h => h) (fun b loc hb => ?_) y cs hc) hr)
    simp [noLoc] at hb

/-- The machine's road from a function's start. -/
theorem calls_of_sound {fn : Func} (hf : P.funcs[g]? = some fn) {c : Code} (hb : fn.body = some c) {xs : List AV} {vs : List Value} (hN : E.N = fn.ntmps) (hlt : ∀ g, ok g → g < W.heap.size) (hv : All2 (Rel0 W ok noLoc) xs vs) (hn : xs.length ≤ fn.ntmps)
    (hs : Sound P g E [.code c] (T0 0 xs) [] x) {R : Ending → World → Prop}
    (hR : ∀ u W' ok' ρ' y H', Trans W W' ok ok' (fun _ => none) [] ρ' H' → HeapOk W' ok' ρ' H' → Rel W' ok' (locs ρ' H') y u → E.fin y H' = some x → R (.returned u) W') : Calls P g vs.toArray W R := by
  intro cs
  let b : Frame := { (default : Frame) with fn := g, kind := .normal }
  have henter : Frame.enter P g vs.toArray .normal = b.at { tmps := vs.toArray ++ Array.replicate (fn.ntmps - vs.toArray.size) undef, defers := [] } [.code c] := by
    simp [Frame.enter, Frame.at, hf, hb, b]
  have hsit := sit_start (fn := fn) hlt hv hn
  rw [← hN] at hsit
  have := hs b _ cs W ok (fun _ => none) R rfl rfl hsit hR
  rw [hN, ← henter] at this
  exact this

theorem pure_rel (hH : HeapOk W ok ρ H) {bs : List Nat} : ∀ {es : List ETy} {ys : List AV} {us : List Value}, ys.length = es.length → ((es.zip ((es.zip ys).map fun p => pureV H p.1 p.2)).all fun p => wt p.1 p.2) = true → (∀ y, y ∈ ys → ∀ b, b ∈ refOf y → b ∈ bs) → All2 (Rel W ok (locs ρ H)) ys us →
    All2 (Rel0 W (okF ok ρ H bs) noLoc) ((es.zip ys).map fun p => pureV H p.1 p.2) us := fun h1 h2 h3 h4 => args_pure hH h1 h2 h3 h4

theorem scal_any {e : ETy} (hs : scalE e = true) {z : AV} (hw : wt e z = true) {v : Value} {W2 : World} {ok2 : Nat → Prop} {R R2 : Nat → Option Loc} (h : Rel0 W ok R z v) : Rel0 W2 ok2 R2 z v := by
  cases e <;> simp [scalE] at hs <;> cases z <;> simp [wt] at hw <;> simpa [Rel0, lift, AV.isAgg, X] using h

theorem scal_all : ∀ {es : List ETy} {zs : List AV} {us : List Value}, es.all scalE = true → ((es.zip zs).all fun p => wt p.1 p.2) = true → zs.length = es.length → ∀ {W2 : World} {ok2 : Nat → Prop} {R R2 : Nat → Option Loc}, All2 (Rel0 W ok R) zs us → All2 (Rel0 W2 ok2 R2) zs us
  | [], [], _, _, _, _, _, _, _, _, h => h
  | e :: es, z :: zs, _, hs, hw, hl, W2, ok2, R, R2, ⟨v, us, rfl, h, h'⟩ => by
    simp only [List.all_cons, List.zip_cons_cons, Bool.and_eq_true] at hs hw
    exact ⟨v, us, rfl, scal_any hs.1 hw.1 h, scal_all hs.2 hw.2 (by simpa using hl) h'⟩
  | [], _ :: _, _, _, _, hl, _, _, _, _, _ => by simp at hl
  | _ :: _, [], _, _, _, hl, _, _, _, _, _ => by simp at hl

theorem wt_notTup {e : ETy} {z : AV} (h : wt e z = true) : ∀ l, z ≠ .tup l := by
  rintro l rfl
  cases e with
  | opq n => cases n with
    | zero => simp [wt] at h
    | succ n => cases n <;> simp [wt] at h
  | sl e => cases e <;> simp [wt] at h
  | _ => simp [wt] at h

theorem rel_tupOf {zs : List AV} {us : List Value} {R : Nat → Option Loc} (h : All2 (Rel0 W ok R) zs us) : Rel W ok R (tupOf zs) (ofL us) := by
  unfold tupOf
  split
  · obtain ⟨v, us', rfl, h, h'⟩ := h
    simp only [All2] at h'
    subst h'
    exact Rel_of_Rel0 h
  · rename_i hne
    rw [rel_tup, ofL_ne]
    · exact ⟨_, rfl, by simpa using h⟩
    · rw [← All2_len h]
      match zs, hne with
      | [], _ => simp
      | [z], hne => exact absurd rfl (hne z)
      | _ :: _ :: _, _ => simp

theorem untup_rel {y : AV} {u : Value} {R : Nat → Option Loc} (h : Rel W ok R y u) (hne : ∀ z, y ≠ .tup [z]) : ∃ us, All2 (Rel W ok R) (untup y) us ∧ u = ofL us := by
  unfold untup
  split
  · exact absurd rfl (hne _)
  · rename_i zs _
    rw [rel_tup] at h
    obtain ⟨cs, rfl, h⟩ := h
    refine ⟨cs.toList, h.imp fun _ _ h => Rel_of_Rel0 h, ?_⟩
    rw [ofL_ne]
    rw [← All2_len h]
    match zs, hne with
    | [], _ => simp
    | [z], hne => exact absurd rfl (hne z)
    | _ :: _ :: _, _ => simp
  · exact ⟨[u], ⟨u, [], rfl, h, rfl⟩, rfl⟩

theorem fin_some {T : Type} {o : Out T} {y : AV} {H : List Blk} {t : T} (h : o.fin y H = some t) : (untup y).length = o.es.length ∧ ((o.es.zip (o.pure H y)).all fun p => wt p.1 p.2) = true ∧ o.un (o.pure H y) = some t ∧ ∀ z, y ≠ .tup [z] := by
  unfold Out.fin at h
  obtain ⟨hc, h⟩ := cond_none_some h
  rw [Bool.and_eq_true] at hc
  refine ⟨beqs hc.1, hc.2, h, ?_⟩
  rintro z rfl
  have h1 := beqs hc.1
  have h2 := hc.2
  simp only [untup, List.length_singleton] at h1
  match hes : o.es with
  | [] => rw [hes] at h1; simp at h1
  | [e] =>
    simp only [Out.pure, hes, untup, List.zip_cons_cons, List.zip_nil_left, List.map_cons, List.map_nil, List.all_cons, List.all_nil, Bool.and_true] at h2
    cases e with
    | opq n => cases n with
      | zero => simp [pureV, view, fitE, wt] at h2
      | succ n => cases n <;> simp [pureV, view, fitE, wt] at h2
    | sl e => cases e <;> simp [pureV, view, fitE, wt] at h2
    | _ => simp [pureV, view, fitE, wt] at h2
  | _ :: _ :: _ => rw [hes] at h1; simp at h1

theorem mkC_ok {T : Type} {ps : List ETy} {o : Out T} {f : List AV → Option T} (ho : o.Ok) {fn : Func} (hf : P.funcs[g]? = some fn) {c : Code} (hb : fn.body = some c) (hname : (fn.name == "runtime.NumGoroutine") = false) (hps : ps.length ≤ fn.ntmps)
    (hs : ∀ xs t, f xs = some t → xs.length = ps.length → ((ps.zip xs).all fun p => wt p.1 p.2) = true → ∃ E : Env T, E.N = fn.ntmps ∧ E.fin = o.fin ∧ Sound P g E [.code c] (T0 0 xs) [] t) : CtrOk P g (mkC ps o f) where
  there := ⟨fn, hf, hname, by rw [hb]; rfl⟩
  calls := by
    intro xs t hft hlen hwt W ok vs hlt hv
    obtain ⟨E, hN, hfin, hs⟩ := hs xs t hft hlen hwt
    refine calls_of_sound (E := E) hf hb hN hlt hv (by rw [hlen]; exact hps) hs ?_
    intro u W' ok' ρ' y H' ht hH hr hy
    rw [hfin] at hy
    obtain ⟨h1, h2, h3, h4⟩ := fin_some hy
    obtain ⟨us, hus, rfl⟩ := untup_rel hr h4
    have hp := pure_rel hH (bs := ((untup y).map refOf).flatten) h1 h2 (fun z hz b hb => List.mem_flatten.2 ⟨_, List.mem_map.2 ⟨z, hz, rfl⟩, hb⟩) hus
    have hre := ho _ _ (by simp [Out.pure, h1]) h2 h3
    have hnm : ∀ g, ¬ mutg (fun _ => none) ([] : List Blk) g := by
      rintro g ⟨b, hb, _⟩
      simp [hget, Blk.live] at hb
    have hokF : ∀ g, okF ok' ρ' H' ((untup y).map refOf).flatten g → ok g ∨ W.heap.size ≤ g := by
      rintro g (h | ⟨b, _, hl, hb⟩)
      · rcases ht.okb g h with h | h | h
        · exact .inl h
        · exact absurd h (hnm g)
        · exact .inr h
      · rcases ht.mu g ⟨b, hl, hb⟩ with h | h
        · exact absurd h (hnm g)
        · exact .inr h
    have hlt' := (hH.freeze ((untup y).map refOf).flatten).lt
    cases hsc : o.es.all scalE with
    | false =>
      refine ⟨ofL us, okF ok' ρ' H' ((untup y).map refOf).flatten, fun _ => none, rfl, ht.os, ht.tape, ht.output, ht.size, fun g hg => ht.keep g hg (hnm g), ?_, heapOk_nil hlt', ?_, ?_⟩
      · intro g hg
        rcases hokF g hg with h | h
        · exact .inl ⟨hsc, h⟩
        · exact .inr h
      · intro b g hl
        simp [mkC, hget, Blk.live] at hl
      · intro n
        simp only [mkC, hre]
        refine rel_tupOf (hp.imp fun z v h => ?_)
        exact lift_mono (fun cs hc => X_mono (Later.refl _ _) (fun _ h => h) (fun b loc hb => by simp [noLoc] at hb) z cs hc) h
    | true =>
      refine ⟨ofL us, fun _ => False, fun _ => none, rfl, ht.os, ht.tape, ht.output, ht.size, fun g hg => ht.keep g hg (hnm g), by simp, heapOk_nil (by simp), ?_, ?_⟩
      · intro b g hl
        simp [mkC, hget, Blk.live] at hl
      · intro n
        simp only [mkC, hre]
        exact rel_tupOf (scal_all hsc h2 (by simp [Out.pure, h1]) hp)

end

/-! ### typed values -/
def den : ETy → Type
  | .int _ => Int
  | .bool => Bool
  | .str => ByteArray
  | .sl (.int _) => List Int
  | .sl _ => List AV
  | .st _ => List AV
  | .opq _ => AV
def mkV : (e : ETy) → den e → AV
  | .int k, n => .int k n
  | .bool, b => .bool b
  | .str, s => .str s
  | .sl (.int k), l => .ints k l
  | .sl .bool, l => .list .bool l
  | .sl .str, l => .list .str l
  | .sl (.sl e), l => .list (.sl e) l
  | .sl (.st e), l => .list (.st e) l
  | .sl (.opq e), l => .list (.opq e) l
  | .st _, l => .agg l
  | .opq _, x => x
def getV : (e : ETy) → AV → den e
  | .int _, x => x.toInt
  | .bool, x => x.toBool
  | .str, x => x.toStr
  | .sl (.int _), x => x.asInts
  | .sl .bool, x => x.asList
  | .sl .str, x => x.asList
  | .sl (.sl _), x => x.asList
  | .sl (.st _), x => x.asList
  | .sl (.opq _), x => x.asList
  | .st _, x => x.flds
  | .opq _, x => x

theorem mk_get : ∀ {e : ETy} {z : AV}, wt e z = true → mkV e (getV e z) = z
  | .int k, z, h => by cases z <;> simp [wt] at h; simp [mkV, getV, AV.toInt, ksame_eq h]
  | .bool, z, h => by cases z <;> simp [wt] at h; simp [mkV, getV, AV.toBool]
  | .str, z, h => by cases z <;> simp [wt] at h; simp [mkV, getV, AV.toStr]
  | .sl e, z, h => by
    cases e <;> cases z <;> simp only [wt, Bool.false_eq_true] at h
    · simp [mkV, getV, AV.asInts, ksame_eq h]
    all_goals
      have := ETy.same_eq _ _ h
      subst this
      simp [mkV, getV, AV.asList]
  | .st fs, z, h => by cases z <;> simp [wt] at h; simp [mkV, getV, AV.flds]
  | .opq n, z, h => rfl

def dens : List ETy → Type
  | [] => Unit
  | [e] => den e
  | e :: e' :: es => den e × dens (e' :: es)
def unL : (es : List ETy) → List AV → dens es
  | [], _ => ()
  | [e], zs => getV e (aget zs 0)
  | e :: e' :: es, zs => (getV e (aget zs 0), unL (e' :: es) zs.tail)
def reL : (es : List ETy) → dens es → List AV
  | [], _ => []
  | [e], x => [mkV e x]
  | e :: e' :: es, x => mkV e x.1 :: reL (e' :: es) x.2

theorem re_un : ∀ {es : List ETy} {zs : List AV}, zs.length = es.length → ((es.zip zs).all fun p => wt p.1 p.2) = true → reL es (unL es zs) = zs
  | [], [], _, _ => rfl
  | [e], [z], _, h => by
    simp only [List.zip_cons_cons, List.zip_nil_left, List.all_cons, List.all_nil, Bool.and_true] at h
    simp [reL, unL, aget, mk_get h]
  | e :: e' :: es, z :: zs, hl, h => by
    simp only [List.zip_cons_cons, List.all_cons, Bool.and_eq_true] at h
    simp only [reL, unL, aget, mk_get h.1, List.tail_cons]
    rw [re_un (by simpa using hl) h.2]
  | [], _ :: _, hl, _ => by simp at hl
  | _ :: _, [], hl, _ => by simp at hl
  | [_], _ :: _ :: _, hl, _ => by simp at hl

def outOf (es : List ETy) : Out (dens es) := ⟨es, fun zs => some (unL es zs), reL es⟩
theorem outOf_ok (es : List ETy) : (outOf es).Ok := by
  intro zs t hl hw h
  simp only [outOf, Option.some.injEq] at h hl hw
  subst h
  exact re_un hl hw

/-- A contract: its arguments' kinds, its answers', what it answers. -/
def mkF (ps es : List ETy) (F : dens ps → Option (dens es)) : Ctr := mkC ps (outOf es) fun xs => F (unL ps xs)

def ctOf : List (Nat × Ctr) → FuncId → Option Ctr
  | [], _ => none
  | (g, C) :: r, n => cond (Nat.beq g n) (some C) (ctOf r n)

def CtsOk (P : Program) : List (Nat × Ctr) → Prop
  | [] => True
  | (g, C) :: r => CtrOk P g C ∧ CtsOk P r

theorem ctOf_ok {P : Program} : ∀ {l : List (Nat × Ctr)}, CtsOk P l → ∀ g C, ctOf l g = some C → CtrOk P g C
  | [], _, g, C, h => by simp [ctOf] at h
  | (n, D) :: r, ⟨h1, h2⟩, g, C, h => by
    simp only [ctOf] at h
    cases hb : Nat.beq n g
    · rw [hb, cond_false] at h
      exact ctOf_ok h2 g C h
    · rw [hb, cond_true, Option.some.injEq] at h
      have := Nat.eq_of_beq_eq_true hb
      subst this h
      exact h1

/-- What a function's run is told by. -/
def envOf (tab : Tab) (cts : List (Nat × Ctr)) (fn : Func) (res : List Nat) (es : List ETy) : Env (dens es) := ⟨tab, ctOf cts, fn.ntmps, res, (outOf es).fin⟩

theorem mkF_ok {P : Program} {g : FuncId} {fn : Func} {c : Code} {tab : Tab} {cts : List (Nat × Ctr)} {res : List Nat} {ps es : List ETy} {F : dens ps → Option (dens es)} (hT : TabOk P tab) (hm : P.follows .mixedOrders = true) (hct : CtsOk P cts)
    (hf : P.funcs[g]? = some fn) (hb : fn.body = some c) (hname : (fn.name == "runtime.NumGoroutine") = false) (hps : Nat.ble ps.length fn.ntmps = true) (hl : Nat.ble res.length 4 = true) (hr : fn.results = (res.map ResultVar.tmp).toArray)
    (hev : ∀ a t, F a = some t → ∃ hint n k, evM (envOf tab cts fn res es) hint n k [.code c] (T0 0 (reL ps a)) [] = some t) : CtrOk P g (mkF ps es F) := by
  refine mkC_ok (outOf_ok es) hf hb hname (Nat.le_of_ble_eq_true hps) ?_
  intro xs t ht hlen hwt
  obtain ⟨hint, n, k, h⟩ := hev _ _ ht
  rw [re_un hlen hwt] at h
  exact ⟨_, rfl, rfl, evM_ok (E := envOf tab cts fn res es) hf (Nat.le_of_ble_eq_true hl) hr hm hT (ctOf_ok hct) h⟩

/-! ### laws -/
theorem CtrOk.run {P : Program} {g : FuncId} {ps es : List ETy} {F : dens ps → Option (dens es)} (h : CtrOk P g (mkF ps es F)) {a : dens ps} {t : dens es} (ht : F a = some t) {W : World} {ok : Nat → Prop} (hok : ∀ g, ok g → g < W.heap.size) {vs : List Value} (hv : All2 (Rel0 W ok noLoc) (reL ps a) vs) (hw : ((ps.zip (reL ps a)).all fun p => wt p.1 p.2) = true) (hl : (reL ps a).length = ps.length) (hun : unL ps (reL ps a) = a) :
    Calls P g vs.toArray W fun e W' => ∃ u okR ρ', e = .returned u ∧ CallPost (mkF ps es F) t W W' ok u okR ρ' :=
  h.calls _ t (by simp only [mkF, mkC]; rw [hun]; exact ht) hl hw W ok vs hok hv

/-! ### places in a text -/
def hintOf : List (Nat × Head) → Nat → Option Head
  | [], _ => none
  | (i, h) :: r, n => cond (Nat.beq i n) (some h) (hintOf r n)
def orE (a : Option (List Item)) (b : Option (List Item)) : Option (List Item) :=
  match a with
  | some x => some x
  | none => b
/-- What is still to do when a cut point is reached. -/
def todoAt (id : Nat) : Code → List Item → Option (List Item)
  | .seq a b, k => orE (todoAt id a (.code b :: k)) (todoAt id b k)
  | .cond _ a b, k => orE (todoAt id a k) (todoAt id b k)
  | .block i c, k => todoAt id c (.inBlock i :: k)
  | .loop c, k => cond (Nat.beq (2 * firstId c) id) (some (.code c :: .inLoop c :: k)) (todoAt id c (.inLoop c :: k))
  | .label l, k => cond (Nat.beq (1000000 + l) id) (some (.code (.label l) :: k)) none
  | .region i ops d, k => cond (Nat.beq (2 * i + 1) id) (some (.code (.region i ops d) :: k)) none
  | _, _ => none
def todoOf (id : Nat) (c : Code) : List Item := (todoAt id c []).getD []
def bodyOf (f : Func) : Code := f.body.getD .skip
end Go.RX
