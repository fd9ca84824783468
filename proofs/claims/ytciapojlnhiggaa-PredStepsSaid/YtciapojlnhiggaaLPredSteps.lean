/- PredSteps: the row of the law: whatever the input, it answers true and leaves the input as it was. No conditions. -/
import Derived.Test.YtciapojlnhiggaaRows
import Derived.Test.YtciapojlnhiggaaMa
import Derived.Test.YtciapojlnhiggaaMb
import Derived.Test.YtciapojlnhiggaaMc
import Derived.Test.YtciapojlnhiggaaQc
import Derived.Test.YtciapojlnhiggaaRz
import Derived.Test.YtciapojlnhiggaaWx
import Derived.WalkKit
import Derived.ProofKit
import Derived.OpenShut
import Derived.ShutString
import Derived.ChangeOld
import Derived.Below
import Derived.SizedLaws
set_option linter.unusedVariables false
set_option linter.unusedSimpArgs false
namespace Go.Proofs.Ytciapojlnhiggaa.predSteps
open Go.ChangeShapes Go.WideShapes Go.ChangeAt Go.RowKit
open Go.ChangeMaps (open_string shut_string)
theorem own : ownKnob Try.prog.godebug = none := by kernel_rfl
theorem walk (W : World) (a0 : Int) (w0 : (Lit.int .u64 a0).wf = true) : Calls Try.prog 4 #[.int .u64 a0] W fun e W' => e = .returned (.bool true) ∧ Below W.heap.size W W' :=
  Go.RX.law_walk (vs := [.int .u64 a0]) Go.RX.S.PredSteps_ok (a := a0) (Go.RX.S.gu_pos (Go.RX.Wd_wf w0)) ⟨_, _, rfl, Go.RX.rel_num _ _, rfl⟩ rfl rfl rfl
set_option maxRecDepth 100000 in
theorem lifted (os : Os) (started : os.Started) (H : Type) (enc : TypeId × Value → H) :
    ReturnsInHanded {} Try.checked os 4 .any (Rows.predStepsSpec.pre6 enc Try.prog Try.f4 Rows.predStepsRow.domain false) (Rows.predStepsSpec.post enc Try.prog Try.f4 false true false false) := by
  refine returnsInHanded_of_change_sized (C := Try.checked) own started (by kernel_rfl) Try.func4
    (ChangeSpec.witness6 (enc := enc) (C := Try.checked) false ⟨#[], #[.int .u64 0], []⟩ 8 (by kernel_rfl) (by kernel_rfl) (by kernel_rfl) (by kernel_rfl)) ?_
  intro W base args ds gs before hval0 hW hcnd hsz0 _
  have hval : ∀ (j : Nat) t v, Try.f4.params[j]? = some t → args[j]? = some v → Value.okWide Try.prog W .any base t v := hval0
  have hW' := hW
  obtain ⟨p, q, hA0, hV, rfl, hfz, hnd⟩ := hW
  have hA : DataW.TrodAll enc Try.prog W 0 (fun _ => true) true Try.f4.params.toList args.toList ds p := hA0
  rw [Try.params4] at hA hval
  obtain ⟨v0, vs0, d0, ds0, p0, q0, hargs, rfl, rfl, h0, r0⟩ := trodAll_cons hA
  obtain ⟨rfl, rfl, rfl⟩ := trodAll_nil r0
  obtain rfl : args = #[v0] := by cases args; simp_all
  obtain ⟨rfl, rfl⟩ := trodVars_none hV
  obtain ⟨a0, rfl, rfl, rfl, w0⟩ := open_int Try.underlying22 (hval 0 22 v0 rfl rfl) h0
  refine (walk W a0 w0).mono fun e W' ⟨he, bel⟩ => ?_
  subst he
  exact ⟨_, rfl, _, _, _, [], _, [], hW', trodAll_mk1 (shut_bool Try.underlying4 _), (trodAll_cons_mk (shut_int Try.underlying22 w0) trodAll_mk0), rfl, bel.frame _, fun h => by cases h⟩
theorem band {a b : Bool} (ha : a = true) (hb : b = true) : (a && b) = true := by rw [ha, hb]; rfl
theorem closed : joinedFacts Try.checked.prog 4 Try.f4 Rows.predStepsSpec Rows.predStepsRow = true := by
  unfold joinedFacts
  exact band (band (band (band (band (band (band (by kernel_rfl) mayEnter) lifts) makes) (by kernel_rfl)) (by kernel_rfl)) (by kernel_rfl)) (by kernel_rfl)
theorem over : Rows.predStepsRow.holds Try.pinned (OpenSpec.ofChange Rows.predStepsSpec) :=
  OpenClaim.holds_of_wide 4 Try.f4 rfl rfl rfl rfl rfl rfl rfl ⟨rfl, rfl, rfl, rfl, rfl⟩ rfl rfl rfl rfl rfl (by kernel_rfl) Try.func4 closed
    (of_decide_eq_true (by kernel_rfl)) (by unfold Func.isWrapper; first | (rw [if_pos (by decide +kernel)]; kernel_rfl) | (rw [if_neg (by decide +kernel)]; exact ⟨rfl, rfl⟩))
    (fun os started H enc _ => lifted os started H enc)
theorem proved : Rows.PredStepsSaid := over
#print axioms proved
end Go.Proofs.Ytciapojlnhiggaa.predSteps
namespace Go.Proofs.Ytciapojlnhiggaa
/-- The row, under a short name, for the claim. -/
theorem predSteps_holds : Rows.PredStepsSaid := predSteps.proved
end Go.Proofs.Ytciapojlnhiggaa
