/- A contract whose answer is a row of the caller's own. -/
import Derived.Test.YtandibmpaamfbaaRw
set_option linter.unusedVariables false
set_option linter.unusedSimpArgs false
namespace Go.RX

/-- One row of numbers, new, that nobody else has. -/
def finN (ty : TypeId) (k : IntKind) (y : AV) (H : List Blk) : Option (List Int) :=
  match y with
  | .vec b 1 => match hget H b with
    | .I ty' k' l => cond (Nat.beq ty ty' && ksame k k') (some l) none
    | _ => none
  | _ => none

/-- A contract: a new row of numbers, for the caller to write. -/
def mkN (ps : List ETy) (ty : TypeId) (k : IntKind) (F : dens ps → Option (List Int)) : Ctr where
  ps := ps
  T := List Int
  f xs := F (unL ps xs)
  res _ n := .vec n 1
  new l := [.I ty k l]
  scal := false

def envN (tab : Tab) (cts : List (Nat × Ctr)) (fn : Func) (res : List Nat) (ty : TypeId) (k : IntKind) : Env (List Int) := ⟨tab, ctOf cts, fn.ntmps, res, finN ty k⟩

theorem finN_some {ty : TypeId} {k : IntKind} {y : AV} {H : List Blk} {l : List Int} (h : finN ty k y H = some l) : ∃ b, y = .vec b 1 ∧ hget H b = .I ty k l := by
  unfold finN at h
  split at h
  · rename_i b
    split at h
    · rename_i ty' k' l' hb
      obtain ⟨hc, h⟩ := cond_none_some h
      rw [Bool.and_eq_true] at hc
      simp only [Option.some.injEq] at h
      have h1 := Nat.eq_of_beq_eq_true hc.1
      have h2 := ksame_eq hc.2
      subst h h1 h2
      exact ⟨b, rfl, hb⟩
    · simp at h
  · simp at h

theorem mkN_ok {P : Program} {g : FuncId} {fn : Func} {c : Code} {tab : Tab} {cts : List (Nat × Ctr)} {res : List Nat} {ps : List ETy} {ty : TypeId} {k : IntKind} {F : dens ps → Option (List Int)} (hT : TabOk P tab) (hm : P.follows .mixedOrders = true) (hct : CtsOk P cts)
    (hf : P.funcs[g]? = some fn) (hb : fn.body = some c) (hname : (fn.name == "runtime.NumGoroutine") = false) (hps : Nat.ble ps.length fn.ntmps = true) (hl : Nat.ble res.length 4 = true) (hr : fn.results = (res.map ResultVar.tmp).toArray)
    (hev : ∀ a t, F a = some t → ∃ hint n j, evM (envN tab cts fn res ty k) hint n j [.code c] (T0 0 (reL ps a)) [] = some t) : CtrOk P g (mkN ps ty k F) where
  there := ⟨fn, hf, hname, by rw [hb]; rfl⟩
  calls := by
    intro xs t hft hlen hwt W ok vs hlt hv
    obtain ⟨hint, n, j, h⟩ := hev (unL ps xs) t hft
    have e : reL ps (unL ps xs) = xs := re_un hlen hwt
    rw [e] at h
    have hs := evM_ok (E := envN tab cts fn res ty k) hf (Nat.le_of_ble_eq_true hl) hr hm hT (ctOf_ok hct) h
    have hps' : xs.length ≤ fn.ntmps := by
      rw [hlen]
      exact Nat.le_of_ble_eq_true hps
    refine calls_of_sound (E := envN tab cts fn res ty k) hf hb rfl hlt hv hps' hs ?_
    intro u W' ok' ρ' y H' ht hH hr hy
    obtain ⟨b, rfl, hbk⟩ := finN_some hy
    have hnm : ∀ g, ¬ mutg (fun _ => none) ([] : List Blk) g := by
      rintro g ⟨b, hb, _⟩
      simp [hget, Blk.live] at hb
    have hlv : (hget H' b).live = true := by rw [hbk]; rfl
    have hget0 : ∀ i, (hget [Blk.I ty k t] i).live = true → i = 0 := by
      intro i hi
      match i with
      | 0 => rfl
      | i + 1 => simp [hget, Blk.live] at hi
    refine ⟨u, ok', fun i => if i = 0 then ρ' b else none, rfl, ht.os, ht.tape, ht.output, ht.size, fun g hg => ht.keep g hg (hnm g), ?_, ?_, ?_, ?_⟩
    · intro g hg
      rcases ht.okb g hg with h | h | h
      · exact .inl ⟨rfl, h⟩
      · exact absurd h (hnm g)
      · exact .inr h
    · refine ⟨fun i => ?_, fun i i' g hl hl' hg hg' => ?_, fun i g hl hg => ?_, hH.lt⟩
      · match i with
        | 0 =>
          have := hH.blk b
          rw [hbk] at this
          exact this
        | i + 1 => simp [mkN, hget, BlkOk]
      · rw [hget0 i hl, hget0 i' hl']
      · have := hget0 i hl
        subst this
        simp only [if_true] at hg
        exact hH.apart b g hlv hg
    · intro i g hl hg
      have := hget0 i hl
      subst this
      simp only [if_true] at hg
      rcases ht.mu g ⟨b, hlv, hg⟩ with h | h
      · exact absurd h (hnm g)
      · exact h
    · intro n
      simp only [mkN]
      rw [rel_vec] at hr ⊢
      obtain ⟨loc, h1, h2⟩ := hr
      refine ⟨loc, ?_, h2⟩
      unfold locs at h1
      rw [hbk] at h1
      simpa [shiftL, locs, hget, Blk.live, Blk.len] using h1
end Go.RX
