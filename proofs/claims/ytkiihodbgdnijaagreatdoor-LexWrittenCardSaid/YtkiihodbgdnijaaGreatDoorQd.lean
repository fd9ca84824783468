/- Contracts of functions that are walked otherwise: from what their calls do. -/
import Derived.Test.YtkiihodbgdnijaaGreatDoorQc
import Derived.Below

set_option linter.unusedVariables false
set_option linter.unusedSimpArgs false
namespace Go.RX
open Go.RowKit

def val1 : (e : ETy) → den e → Value
  | .int k, n => .int k n
  | .bool, b => .bool b
  | .str, s => .string s
  | _, _ => undef
def valL : (es : List ETy) → dens es → List Value
  | [], _ => []
  | [e], x => [val1 e x]
  | e :: e' :: es, x => val1 e x.1 :: valL (e' :: es) x.2

section
variable {P : Program} {W : World} {ok : Nat → Prop} {R : Nat → Option Loc}
theorem val1_eq : ∀ {e : ETy} {z : AV} {v : Value}, scalE e = true → wt e z = true → Rel0 W ok R z v → v = val1 e (getV e z)
  | .int k, z, v, _, h, hr => by
    cases z <;> simp [wt] at h
    have := ksame_eq h
    subst this
    simpa [Rel0, lift, AV.isAgg, X, val1, getV, AV.toInt] using hr
  | .bool, z, v, _, h, hr => by
    cases z <;> simp [wt] at h
    simpa [Rel0, lift, AV.isAgg, X, val1, getV, AV.toBool] using hr
  | .str, z, v, _, h, hr => by
    cases z <;> simp [wt] at h
    simpa [Rel0, lift, AV.isAgg, X, val1, getV, AV.toStr] using hr
  | .sl _, _, _, hs, _, _ => by simp [scalE] at hs
  | .st _, _, _, hs, _, _ => by simp [scalE] at hs
  | .opq _, _, _, hs, _, _ => by simp [scalE] at hs
  | .err, _, _, hs, _, _ => by simp [scalE] at hs
theorem valL_eq : ∀ {es : List ETy} {zs : List AV} {vs : List Value}, es.all scalE = true → zs.length = es.length → ((es.zip zs).all fun p => wt p.1 p.2) = true → All2 (Rel0 W ok R) zs vs → vs = valL es (unL es zs)
  | [], [], _, _, _, _, h => h
  | [e], [z], _, hs, _, hw, ⟨v, _, rfl, h, rfl⟩ => by
    simp only [List.all_cons, List.all_nil, Bool.and_true, List.zip_cons_cons, List.zip_nil_left] at hs hw
    simp only [valL, unL, aget]
    rw [val1_eq hs hw h]
  | e :: e' :: es, z :: zs, _, hs, hl, hw, ⟨v, vs, rfl, h, h'⟩ => by
    rw [List.all_cons, Bool.and_eq_true] at hs
    rw [List.zip_cons_cons, List.all_cons, Bool.and_eq_true] at hw
    simp only [valL, unL, aget, List.tail_cons]
    rw [val1_eq hs.1 hw.1 h, ← valL_eq hs.2 (by simpa using hl) hw.2 h']
  | [], _ :: _, _, _, hl, _, _ => by simp at hl
  | _ :: _, [], _, _, hl, _, _ => by simp at hl
  | [_], _ :: _ :: _, _, _, hl, _, _ => by simp at hl
end

/-- The blocks that a call has made. -/
def fresh (W W' : World) : Nat → Prop := fun g => W.heap.size ≤ g ∧ g < W'.heap.size

theorem mkV_scal : ∀ {e : ETy} (x : den e), scalE e = true → wt e (mkV e x) = true
  | .int k, x, _ => by cases k <;> rfl
  | .bool, x, _ => rfl
  | .str, x, _ => rfl
  | .sl _, _, hs => by simp [scalE] at hs
  | .st _, _, hs => by simp [scalE] at hs
  | .opq _, _, hs => by simp [scalE] at hs
  | .err, _, hs => by simp [scalE] at hs
theorem reL_scal : ∀ {es : List ETy} (t : dens es), es.all scalE = true → (reL es t).length = es.length ∧ ((es.zip (reL es t)).all fun p => wt p.1 p.2) = true
  | [], t, _ => ⟨rfl, rfl⟩
  | [e], x, hs => by
    simp only [List.all_cons, List.all_nil, Bool.and_true] at hs
    simp [reL, mkV_scal x hs]
  | e :: e' :: es, x, hs => by
    rw [List.all_cons, Bool.and_eq_true] at hs
    obtain ⟨q1, q2⟩ := reL_scal x.2 hs.2
    simp only [reL, List.length_cons, List.zip_cons_cons, List.all_cons, mkV_scal x.1 hs.1, Bool.true_and]
    exact ⟨by simpa using q1, q2⟩
theorem hand_ok {P : Program} {g : FuncId} {ps es : List ETy} {F : dens ps → Option (dens es)} (there : ∃ fn, P.funcs[g]? = some fn ∧ (fn.name == "runtime.NumGoroutine") = false ∧ fn.body.isNone = false) (hs : ps.all scalE = true)
    (h : ∀ xs t, F xs = some t → ∀ (W : World) (ok : Nat → Prop), Glob W ok → Calls P g (valL ps xs).toArray W fun e W' => ∃ us, e = .returned (ofL us) ∧ Below W.heap.size W W' ∧ All2 (Rel0 W' (fresh W W') noLoc) (reL es t) us) :
    CtrOk P g (mkF ps es F) where
  there := there
  calls := by
    intro xs t hft hlen hwt W ok vs hlt hG hv
    have hvs := valL_eq hs hlen hwt hv
    subst hvs
    refine (h _ t hft W ok hG).mono ?_
    rintro e W' ⟨us, rfl, hb, hr⟩
    refine ⟨ofL us, fun g => (mkF ps es F).scal = false ∧ fresh W W' g, fun _ => none, rfl, hb.os, hb.tape, hb.output, hb.size, hb.block, fun g hg => .inr hg.2.1, heapOk_nil (fun g hg => hg.2.2), ?_, fun b => by simp [mkF, mkC, hget, Blk.pinned], ?_⟩
    · intro b g hl
      simp [mkF, mkC, hget, Blk.live] at hl
    · intro n
      refine rel_tupOf (zs := reL es t) ?_
      cases hsc : es.all scalE with
      | true => exact scal_all hsc (reL_scal t hsc).2 (reL_scal t hsc).1 hr
      | false =>
        have e : (fun g => (mkF ps es F).scal = false ∧ fresh W W' g) = fresh W W' := by
          funext g
          simp [mkF, mkC, outOf, hsc]
        rw [e]
        exact hr.imp fun z v h => lift_mono (fun cs hc => X_mono (Later.refl _ _) (fun _ h => h) (fun b loc hb => by simp [noLoc] at hb) z cs hc) h
  wcalls := by
    intro te k h
    simp [mkF, mkC] at h
  gcalls := by
    intro ms rs h
    simp [mkF, mkC] at h
end Go.RX
