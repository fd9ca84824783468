/- Calls by contract; every operation. -/
import Derived.Test.YtandibmpaamfbaaRq
set_option linter.unusedVariables false
set_option linter.unusedSimpArgs false
namespace Go.RX

def shiftL (n : Nat) (R : Nat → Option Loc) : Nat → Option Loc := fun b => if n ≤ b then R (b - n) else none

/-- What is behind a call: all that was there is as it was; what is answered. -/
structure CallPost (C : Ctr) (t : C.T) (W W' : World) (ok : Nat → Prop) (u : Value) (okR : Nat → Prop) (ρ' : Nat → Option Nat) : Prop where
  os : W'.os = W.os
  tape : W'.tape = W.tape
  output : W'.output = W.output
  size : W.heap.size ≤ W'.heap.size
  keep : ∀ g, g < W.heap.size → W'.heap[g]? = W.heap[g]?
  okb : ∀ g, okR g → (C.scal = false ∧ ok g) ∨ W.heap.size ≤ g
  heap : HeapOk W' okR ρ' (C.new t)
  fresh : ∀ b g, (hget (C.new t) b).live = true → ρ' b = some g → W.heap.size ≤ g
  res : ∀ n, Rel W' okR (shiftL n (locs ρ' (C.new t))) (C.res t n) u

structure CtrOk (P : Program) (g : FuncId) (C : Ctr) : Prop where
  there : ∃ fn, P.funcs[g]? = some fn ∧ (fn.name == "runtime.NumGoroutine") = false ∧ fn.body.isNone = false
  calls : ∀ (xs : List AV) (t : C.T), C.f xs = some t → xs.length = C.ps.length → ((C.ps.zip xs).all fun p => wt p.1 p.2) = true →
    ∀ (W : World) (ok : Nat → Prop) (vs : List Value), (∀ g, ok g → g < W.heap.size) → All2 (Rel0 W ok noLoc) xs vs →
      Calls P g vs.toArray W fun e W' => ∃ u okR ρ', e = .returned u ∧ CallPost C t W W' ok u okR ρ'

def joinL (ρ ρ' : Nat → Option Nat) (n : Nat) : Nat → Option Nat := fun b => if b < n then ρ b else ρ' (b - n)

section
variable {P : Program} {tab : Tab} {W W' W1 : World} {ok ok' okv okR : Nat → Prop} {ρ ρ' : Nat → Option Nat} {H H' N : List Blk} {R R' : Nat → Option Loc}

theorem hget_join (b : Nat) : hget (H ++ N) b = if b < H.length then hget H b else hget N (b - H.length) := by
  split
  · rename_i h; exact hget_append h
  · rename_i h
    have := hget_append_ge (H := H) (l := N) (b := b - H.length)
    rwa [show H.length + (b - H.length) = b from by omega] at this

theorem HeapOk.join (hH : HeapOk W ok ρ H) (hN : HeapOk W' okR ρ' N) (keep : ∀ g, g < W.heap.size → W'.heap[g]? = W.heap[g]?) (size : W.heap.size ≤ W'.heap.size) (hok : ∀ g, okR g → ok g ∨ W.heap.size ≤ g)
    (fresh : ∀ b g, (hget N b).live = true → ρ' b = some g → W.heap.size ≤ g) (shape : ∀ g T m, W.shape? g = some (T, m) → W'.shape? g = some (T, m)) : HeapOk W' (fun g => ok g ∨ okR g) (joinL ρ ρ' H.length) (H ++ N) := by
  have old : ∀ {b g}, (hget H b).live = true → ρ b = some g → g < W.heap.size := by
    intro b g hl hg
    obtain ⟨c, t, hh⟩ := hH.here hl hg
    exact (Array.getElem?_eq_some_iff.1 hh).1
  have hla : Later W W' ok := ⟨fun g hg => keep g (hH.lt g hg), shape⟩
  constructor
  · intro b
    rw [hget_join]
    unfold joinL
    split
    · exact (hH.blk b).mono hla (fun _ h => .inl h) (fun hl g hg => keep g (old hl hg))
    · exact (hN.blk _).mono (Later.refl _ _) (fun _ h => .inr h) (fun _ _ _ => rfl)
  · intro b b' g hl hl' hg hg'
    rw [hget_join] at hl hl'
    unfold joinL at hg hg'
    split at hl <;> split at hl'
    · rename_i h1 h2
      rw [if_pos h1] at hg
      rw [if_pos h2] at hg'
      exact hH.inj b b' g hl hl' hg hg'
    · rename_i h1 h2
      rw [if_pos h1] at hg
      rw [if_neg h2] at hg'
      have := old hl hg
      have := fresh _ g hl' hg'
      omega
    · rename_i h1 h2
      rw [if_neg h1] at hg
      rw [if_pos h2] at hg'
      have := old hl' hg'
      have := fresh _ g hl hg
      omega
    · rename_i h1 h2
      rw [if_neg h1] at hg
      rw [if_neg h2] at hg'
      have := hN.inj _ _ g hl hl' hg hg'
      omega
  · intro b g hl hg hokg
    rw [hget_join] at hl
    unfold joinL at hg
    split at hl
    · rename_i h1
      rw [if_pos h1] at hg
      have hlt := old hl hg
      rcases hokg with h | h
      · exact hH.apart b g hl hg h
      · rcases hok g h with h | h
        · exact hH.apart b g hl hg h
        · omega
    · rename_i h1
      rw [if_neg h1] at hg
      have hge := fresh _ g hl hg
      rcases hokg with h | h
      · have := hH.lt g h
        omega
      · exact hN.apart _ g hl hg h
  · intro g hg
    rcases hg with h | h
    · exact Nat.lt_of_lt_of_le (hH.lt g h) size
    · exact hN.lt g h

theorem shape_of_keep (keep : ∀ g, g < W.heap.size → W'.heap[g]? = W.heap[g]?) (g T m : Nat) (h : W.shape? g = some (T, m)) : W'.shape? g = some (T, m) := by
  have hlt : g < W.heap.size := by
    rcases Nat.lt_or_ge g W.heap.size with h1 | h1
    · exact h1
    · simp [World.shape?, Array.getElem?_eq_none h1] at h
  unfold World.shape? at *
  rwa [keep g hlt]

theorem call_exec {o : Oper} {f : Operand} {args : Array Operand} {ts : Array TypeId} (ho : o.op = .call { callee := .value f, args := args, argTypes := ts }) {rv : Operand → Value} {g : FuncId} (hf : rv f = .func (.func g) #[] #[]) {fn : Func} (h1 : P.funcs[g]? = some fn) (h2 : (fn.name == "runtime.NumGoroutine") = false) (h3 : fn.body.isNone = false) :
    (execOp rv o).run P W = .ok (.enter g (args.map rv)) W := by
  obtain ⟨dst, op, ty', pos, after, guard⟩ := o
  simp only at ho
  subst ho
  have h2' : ¬ fn.name = "runtime.NumGoroutine" := by simpa using h2
  have h3' : ¬ fn.body = none := by intro h; rw [h] at h3; simp at h3
  simp [execOp, resolve, hf, Deferred.ofValue, invoke, callFunc, h1, h2', h3']

theorem args_pure (hH : HeapOk W ok ρ H) {bs : List Nat} : ∀ {ps : List ETy} {xs : List AV} {vs : List Value}, xs.length = ps.length → ((ps.zip ((ps.zip xs).map fun p => pureV H p.1 p.2)).all fun p => wt p.1 p.2) = true → (∀ x, x ∈ xs → ∀ b, b ∈ refOf x → b ∈ bs) → All2 (Rel W ok (locs ρ H)) xs vs →
    All2 (Rel0 W (okF ok ρ H bs) noLoc) ((ps.zip xs).map fun p => pureV H p.1 p.2) vs
  | [], [], vs, _, _, _, h => by simpa only [List.zip_nil_left, List.map_nil, All2] using h
  | p :: ps, x :: xs, _, hl, hw, hb, ⟨v, vs, rfl, hx, h⟩ => by
    simp only [List.zip_cons_cons, List.map_cons, List.all_cons, Bool.and_eq_true] at hw ⊢
    refine ⟨v, vs, rfl, ?_, args_pure hH (by simpa using hl) hw.2 (fun y hy => hb y (by simp [hy])) h⟩
    exact (Rel0_pure hH (fun _ h => .inl h) hw.1 (fun b g hbm hlv hg => .inr ⟨b, hb x (by simp) b hbm, hlv, hg⟩) hx).1
  | [], x :: xs, _, hl, _, _, _ => by simp at hl
  | p :: ps, [], _, hl, _, _, _ => by simp at hl

theorem OpS.call {o : Oper} {ev : Operand → AV} {f : Operand} {args : Array Operand} {ts : Array TypeId} (ho : o.op = .call { callee := .value f, args := args, argTypes := ts }) {g : FuncId} (hf : ev f = .fn g) {C : Ctr} (hC : CtrOk P g C)
    (hlen : (args.toList.map ev).length = C.ps.length) (hw : ((C.ps.zip ((C.ps.zip (args.toList.map ev)).map fun p => pureV H p.1 p.2)).all fun p => wt p.1 p.2) = true) {t : C.T} (ht : C.f ((C.ps.zip (args.toList.map ev)).map fun p => pureV H p.1 p.2) = some t)
    {bs bs' : List Nat} (hbs : bs = ((args.toList.map ev).map refOf).flatten) (hbs' : bs' = bs ∨ (C.scal = true ∧ bs' = [])) {m : Nat} (hm : m = H.length ∨ C.new t = []) :
    OpS P o ev H (trOf H bs') (C.res t m) (killH H bs' ++ C.new t) := by
  intro Q a W ok ρ hr hH K hK
  obtain ⟨fn, h1, h2, h3⟩ := hC.there
  have hrf := hr f (by rw [ho]; simp [Op.operands, Call.operands])
  rw [hf, rel_fn] at hrf
  unfold Oper.wp
  rw [call_exec ho hrf h1 h2 h3]
  have hra : All2 (Rel W ok (locs ρ H)) (args.toList.map ev) (args.toList.map a.eval) := All2_map (fun x hx => hr x (by rw [ho]; simp [Op.operands, Call.operands]; exact .inr (by simpa using hx)))
  have hsub : ∀ x, x ∈ args.toList.map ev → ∀ b, b ∈ refOf x → b ∈ bs := fun x hx b hb => by
    rw [hbs, List.mem_flatten]
    exact ⟨_, List.mem_map.2 ⟨x, hx, rfl⟩, hb⟩
  have hargs := args_pure hH hlen hw hsub hra
  have hFb := hH.freeze bs
  have hzl : ((C.ps.zip (args.toList.map ev)).map fun p => pureV H p.1 p.2).length = C.ps.length := by
    rw [List.length_map, List.length_zip, hlen, Nat.min_self]
  have hcalls := hC.calls _ t ht hzl hw W (okF ok ρ H bs) (args.toList.map a.eval) hFb.lt hargs
  have he : (args.toList.map a.eval).toArray = args.map a.eval := by apply Array.ext'; simp
  rw [he] at hcalls
  refine Calls.mono hcalls ?_
  rintro e W' ⟨u, okR, ρ', rfl, hp⟩
  simp only
  have hF := hH.freeze bs'
  have hkl : (killH H bs').length = H.length := killH_length
  have hokR : ∀ g, okR g → okF ok ρ H bs' g ∨ W.heap.size ≤ g := by
    intro g hg
    rcases hp.okb g hg with ⟨hs, h⟩ | h
    · rcases hbs' with hb | ⟨hs', _⟩
      · rw [hb]; exact .inl h
      · rw [hs] at hs'; simp at hs'
    · exact .inr h
  have hsh := shape_of_keep hp.keep
  have hJ := hF.join hp.heap hp.keep hp.size hokR hp.fresh hsh
  rw [hkl] at hJ
  have hT : Trans W W' ok (fun g => okF ok ρ H bs' g ∨ okR g) ρ H (joinL ρ ρ' H.length) (killH H bs' ++ C.new t) := by
    refine ⟨hp.os, hp.tape, hp.output, hp.size, fun g hg _ => hp.keep g hg, hsh, fun g hg => .inl (.inl hg), ?_, ?_⟩
    · intro g hg
      have key : okF ok ρ H bs' g → ok g ∨ mutg ρ H g ∨ W.heap.size ≤ g := by
        rintro (h | ⟨b, _, hl, hb⟩)
        · exact .inl h
        · exact .inr (.inl ⟨b, hl, hb⟩)
      rcases hg with h | h
      · exact key h
      · rcases hokR g h with h | h
        · exact key h
        · exact .inr (.inr h)
    · rintro g ⟨b, hl, hb⟩
      rw [hget_join, hkl] at hl
      unfold joinL at hb
      split at hl
      · rename_i hlt
        rw [if_pos hlt] at hb
        exact .inl (mut_kill ⟨b, hl, hb⟩)
      · rename_i hlt
        rw [if_neg hlt] at hb
        exact .inr (hp.fresh _ g hl hb)
  have hknows : Knows (locs ρ (killH H bs')) (locs (joinL ρ ρ' H.length) (killH H bs' ++ C.new t)) := by
    intro b loc hb
    obtain ⟨hl, _, _⟩ := locs_some hb
    have hlt := hget_lt hl
    unfold locs at *
    rw [hget_join, if_pos hlt]
    rw [hkl] at hlt
    simpa [joinL, hlt] using hb
  have hkn2 : Knows (shiftL m (locs ρ' (C.new t))) (locs (joinL ρ ρ' H.length) (killH H bs' ++ C.new t)) := by
    intro b loc hb
    rcases hm with rfl | hm
    case inr =>
      unfold shiftL at hb
      split at hb
      · rw [hm] at hb
        have := (locs_some hb).1
        simp [hget, Blk.live] at this
      · simp at hb
    unfold shiftL at hb
    split at hb
    · rename_i hge
      unfold locs at *
      rw [hget_join, if_neg (by omega), hkl]
      simpa [joinL, show ¬ b < H.length from by omega] using hb
    · simp at hb
  refine hK u W' _ (joinL ρ ρ' H.length) hT hJ (Rel_mono (Later.refl _ _) (fun g hg => .inr hg) hkn2 (hp.res m)) ?_
  intro x y hxy
  have := trOf_app hH bs' hxy
  have hla : Later W W' (okF ok ρ H bs') := ⟨fun g hg => hp.keep g (hF.lt g hg), hsh⟩
  exact Rel_mono hla (fun g hg => .inl hg) hknows this
end
end Go.RX
