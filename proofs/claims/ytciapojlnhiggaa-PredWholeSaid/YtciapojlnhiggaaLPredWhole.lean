/- PredWhole: the row of the law: whatever the input, it answers true and leaves the input as it was. No conditions. -/
import Derived.Test.YtciapojlnhiggaaRows
import Derived.Test.YtciapojlnhiggaaMa
import Derived.Test.YtciapojlnhiggaaMb
import Derived.Test.YtciapojlnhiggaaMc
import Derived.Test.YtciapojlnhiggaaQc
import Derived.Test.YtciapojlnhiggaaRz
import Derived.Test.YtciapojlnhiggaaWy
import Derived.WalkKit
import Derived.ProofKit
import Derived.OpenShut
import Derived.ShutString
import Derived.ChangeOld
import Derived.Below
import Derived.SizedLaws
set_option linter.unusedVariables false
set_option linter.unusedSimpArgs false
namespace Go.Proofs.Ytciapojlnhiggaa.predWhole
open Go.ChangeShapes Go.WideShapes Go.ChangeAt Go.RowKit
open Go.ChangeMaps (open_string shut_string)
theorem own : ownKnob Try.prog.godebug = none := by kernel_rfl
theorem laidOut : laidOutB Try.prog = true := by kernel_rfl
theorem walk (W : World) (z0 : List Int) (l0 : z0.length = 9) (w0 : ∀ p ∈ (List.replicate 9 IntKind.i64).zip z0, (Lit.int p.1 p.2).wf = true) : Calls Try.prog 6 #[.agg (Go.RX.cellsK (List.replicate 9 IntKind.i64) z0).toArray] W fun e W' => e = .returned (.bool true) ∧ Below W.heap.size W W' :=
  Go.RX.law_walk (vs := [.agg (Go.RX.cellsK (List.replicate 9 IntKind.i64) z0).toArray]) Go.RX.S.PredWhole_ok (a := Go.RX.avsK (List.replicate 9 IntKind.i64) z0) (Go.RX.S.gu_pos (fun i hi => Go.RX.I64_wf (Go.RX.wf_K (ks := (List.replicate 9 IntKind.i64)) l0 w0 (fun _ => List.eq_of_mem_replicate) i hi))) ⟨_, _, rfl, Go.RX.rel_K (ks := (List.replicate 9 IntKind.i64)) l0, rfl⟩ (Go.RX.ball_cons (Go.RX.wt_K (ks := (List.replicate 9 IntKind.i64)) l0) rfl) rfl (Go.RX.get_K (ks := (List.replicate 9 IntKind.i64)) l0)
set_option maxRecDepth 100000 in
theorem lifted (os : Os) (started : os.Started) (H : Type) (enc : TypeId × Value → H) :
    ReturnsInHanded {} Try.checked os 6 .any (Rows.predWholeSpec.pre6 enc Try.prog Try.f6 Rows.predWholeRow.domain false) (Rows.predWholeSpec.post enc Try.prog Try.f6 false true false false) := by
  refine returnsInHanded_of_change_sized (C := Try.checked) own started (by kernel_rfl) Try.func6
    (ChangeSpec.witness6 (enc := enc) (C := Try.checked) false ⟨#[], #[.agg #[.int .i64 0, .int .i64 0, .int .i64 0, .int .i64 0, .int .i64 0, .int .i64 0, .int .i64 0, .int .i64 0, .int .i64 0]], []⟩ 8 (by kernel_rfl) (by kernel_rfl) (by kernel_rfl) (by kernel_rfl)) ?_
  intro W base args ds gs before hval0 hW hcnd hsz0 _
  have hval : ∀ (j : Nat) t v, Try.f6.params[j]? = some t → args[j]? = some v → Value.okWide Try.prog W .any base t v := hval0
  have hW' := hW
  obtain ⟨p, q, hA0, hV, rfl, hfz, hnd⟩ := hW
  have hA : DataW.TrodAll enc Try.prog W 0 (fun _ => true) true Try.f6.params.toList args.toList ds p := hA0
  rw [Try.params6] at hA hval
  obtain ⟨v0, vs0, d0, ds0, p0, q0, hargs, rfl, rfl, h0, r0⟩ := trodAll_cons hA
  obtain ⟨rfl, rfl, rfl⟩ := trodAll_nil r0
  obtain rfl : args = #[v0] := by cases args; simp_all
  obtain ⟨rfl, rfl⟩ := trodVars_none hV
  obtain ⟨c0, rfl, s0⟩ := okWide_struct Try.underlying49 (hval 0 49 v0 rfl rfl)
  have k0 := h0
  have lt0 : ∀ x ∈ p0, x.block < W.heap.size := by obtain ⟨m, hm⟩ := k0; exact DataW.trod_lt m _ _ _ hm
  obtain ⟨z0, rfl, l0, w0⟩ : ∃ zs : List Int, c0 = (Go.RX.cellsK (List.replicate 9 IntKind.i64) zs).toArray ∧ zs.length = ((List.replicate 9 IntKind.i64)).length ∧ ∀ p ∈ (List.replicate 9 IntKind.i64).zip zs, (Lit.int p.1 p.2).wf = true := by
    obtain ⟨fuel, hf⟩ := h0
    exact Go.RX.cs_K (Go.RX.flatK_open (P := Try.prog) 4 49 (List.replicate 9 IntKind.i64) (by kernel_rfl) _ _ _ hf)
  refine (walk W z0 l0 w0).mono fun e W' ⟨he, bel⟩ => ?_
  subst he
  exact ⟨_, rfl, _, _, _, [], _, [], hW', trodAll_mk1 (shut_bool Try.underlying4 _), (trodAll_cons_mk (Below.trod laidOut (by kernel_rfl) (of_decide_eq_true (by kernel_rfl)) k0 bel lt0) trodAll_mk0), rfl, bel.frame _, fun h => by cases h⟩
theorem band {a b : Bool} (ha : a = true) (hb : b = true) : (a && b) = true := by rw [ha, hb]; rfl
theorem closed : joinedFacts Try.checked.prog 6 Try.f6 Rows.predWholeSpec Rows.predWholeRow = true := by
  unfold joinedFacts
  exact band (band (band (band (band (band (band (by kernel_rfl) mayEnter) lifts) makes) (by kernel_rfl)) (by kernel_rfl)) (by kernel_rfl)) (by kernel_rfl)
theorem over : Rows.predWholeRow.holds Try.pinned (OpenSpec.ofChange Rows.predWholeSpec) :=
  OpenClaim.holds_of_wide 6 Try.f6 rfl rfl rfl rfl rfl rfl rfl ⟨rfl, rfl, rfl, rfl, rfl⟩ rfl rfl rfl rfl rfl (by kernel_rfl) Try.func6 closed
    (of_decide_eq_true (by kernel_rfl)) (by unfold Func.isWrapper; first | (rw [if_pos (by decide +kernel)]; kernel_rfl) | (rw [if_neg (by decide +kernel)]; exact ⟨rfl, rfl⟩))
    (fun os started H enc _ => lifted os started H enc)
theorem proved : Rows.PredWholeSaid := over
#print axioms proved
end Go.Proofs.Ytciapojlnhiggaa.predWhole
namespace Go.Proofs.Ytciapojlnhiggaa
/-- The row, under a short name, for the claim. -/
theorem predWhole_holds : Rows.PredWholeSaid := predWhole.proved
end Go.Proofs.Ytciapojlnhiggaa
