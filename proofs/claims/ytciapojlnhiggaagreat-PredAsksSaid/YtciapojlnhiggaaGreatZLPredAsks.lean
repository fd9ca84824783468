/- PredAsks: the row of the law: whatever the input, it answers true and leaves the input as it was. No conditions. -/
import Derived.Test.YtciapojlnhiggaaGreatRows
import Derived.Test.YtciapojlnhiggaaGreatZMa
import Derived.Test.YtciapojlnhiggaaGreatZMb
import Derived.Test.YtciapojlnhiggaaGreatZMc
import Derived.Test.YtciapojlnhiggaaGreatZQc
import Derived.Test.YtciapojlnhiggaaGreatZRz
import Derived.Test.YtciapojlnhiggaaGreatZWz
import Derived.WalkKit
import Derived.ProofKit
import Derived.OpenShut
import Derived.ShutString
import Derived.ChangeOld
import Derived.Below
import Derived.SizedLaws
set_option linter.unusedVariables false
set_option linter.unusedSimpArgs false
namespace Go.Proofs.YtciapojlnhiggaaGreat.predAsks
open Go.ChangeShapes Go.WideShapes Go.ChangeAt Go.RowKit
open Go.ChangeMaps (open_string shut_string)
theorem own : ownKnob Tryz.prog.godebug = none := by kernel_rfl
theorem laidOut : laidOutB Tryz.prog = true := by kernel_rfl
theorem walk (W : World) (z0 : List Int) (l0 : z0.length = 8) (w0 : ∀ p ∈ (List.replicate 8 IntKind.u64).zip z0, (Lit.int p.1 p.2).wf = true) : Calls Tryz.prog 3 #[.agg (Go.RX.cellsK (List.replicate 8 IntKind.u64) z0).toArray] W fun e W' => e = .returned (.bool true) ∧ Below W.heap.size W W' :=
  Go.RX.law_walk (vs := [.agg (Go.RX.cellsK (List.replicate 8 IntKind.u64) z0).toArray]) Go.RX.S.PredAsks_ok (a := Go.RX.avsK (List.replicate 8 IntKind.u64) z0) (Go.RX.S.gu_pos (fun i hi => Go.RX.Wd_wf (Go.RX.wf_K (ks := (List.replicate 8 IntKind.u64)) l0 w0 (fun _ => List.eq_of_mem_replicate) i hi))) ⟨_, _, rfl, Go.RX.rel_K (ks := (List.replicate 8 IntKind.u64)) l0, rfl⟩ (Go.RX.ball_cons (Go.RX.wt_K (ks := (List.replicate 8 IntKind.u64)) l0) rfl) rfl (Go.RX.get_K (ks := (List.replicate 8 IntKind.u64)) l0)
set_option maxRecDepth 100000 in
theorem lifted (os : Os) (started : os.Started) (H : Type) (enc : TypeId × Value → H) :
    ReturnsInHanded {} Tryz.checked os 3 .any (Rows.predAsksSpec.pre6 enc Tryz.prog Tryz.f3 Rows.predAsksRow.domain false) (Rows.predAsksSpec.post enc Tryz.prog Tryz.f3 false true false false) := by
  refine returnsInHanded_of_change_sized (C := Tryz.checked) own started (by kernel_rfl) Tryz.func3
    (ChangeSpec.witness6 (enc := enc) (C := Tryz.checked) false ⟨#[], #[.agg #[.int .u64 0, .int .u64 0, .int .u64 0, .int .u64 0, .int .u64 0, .int .u64 0, .int .u64 0, .int .u64 0]], []⟩ 8 (by kernel_rfl) (by kernel_rfl) (by kernel_rfl) (by kernel_rfl)) ?_
  intro W base args ds gs before hval0 hW hcnd hsz0 _
  have hval : ∀ (j : Nat) t v, Tryz.f3.params[j]? = some t → args[j]? = some v → Value.okWide Tryz.prog W .any base t v := hval0
  have hW' := hW
  obtain ⟨p, q, hA0, hV, rfl, hfz, hnd⟩ := hW
  have hA : DataW.TrodAll enc Tryz.prog W 0 (fun _ => true) true Tryz.f3.params.toList args.toList ds p := hA0
  rw [Tryz.params3] at hA hval
  obtain ⟨v0, vs0, d0, ds0, p0, q0, hargs, rfl, rfl, h0, r0⟩ := trodAll_cons hA
  obtain ⟨rfl, rfl, rfl⟩ := trodAll_nil r0
  obtain rfl : args = #[v0] := by cases args; simp_all
  obtain ⟨rfl, rfl⟩ := trodVars_none hV
  obtain ⟨c0, rfl, s0⟩ := okWide_struct Tryz.underlying26 (hval 0 26 v0 rfl rfl)
  have k0 := h0
  have lt0 : ∀ x ∈ p0, x.block < W.heap.size := by obtain ⟨m, hm⟩ := k0; exact DataW.trod_lt m _ _ _ hm
  obtain ⟨z0, rfl, l0, w0⟩ : ∃ zs : List Int, c0 = (Go.RX.cellsK (List.replicate 8 IntKind.u64) zs).toArray ∧ zs.length = ((List.replicate 8 IntKind.u64)).length ∧ ∀ p ∈ (List.replicate 8 IntKind.u64).zip zs, (Lit.int p.1 p.2).wf = true := by
    obtain ⟨fuel, hf⟩ := h0
    exact Go.RX.cs_K (Go.RX.flatK_open (P := Tryz.prog) 4 26 (List.replicate 8 IntKind.u64) (by kernel_rfl) _ _ _ hf)
  refine (walk W z0 l0 w0).mono fun e W' ⟨he, bel⟩ => ?_
  subst he
  exact ⟨_, rfl, _, _, _, [], _, [], hW', trodAll_mk1 (shut_bool Tryz.underlying4 _), (trodAll_cons_mk (Below.trod laidOut (by kernel_rfl) (of_decide_eq_true (by kernel_rfl)) k0 bel lt0) trodAll_mk0), rfl, bel.frame _, fun h => by cases h⟩
theorem band {a b : Bool} (ha : a = true) (hb : b = true) : (a && b) = true := by rw [ha, hb]; rfl
theorem closed : joinedFacts Tryz.checked.prog 3 Tryz.f3 Rows.predAsksSpec Rows.predAsksRow = true := by
  unfold joinedFacts
  exact band (band (band (band (band (band (band (by kernel_rfl) mayEnter) lifts) makes) (by kernel_rfl)) (by kernel_rfl)) (by kernel_rfl)) (by kernel_rfl)
theorem over : Rows.predAsksRow.holds Tryz.pinned (OpenSpec.ofChange Rows.predAsksSpec) :=
  OpenClaim.holds_of_wide 3 Tryz.f3 rfl rfl rfl rfl rfl rfl rfl ⟨rfl, rfl, rfl, rfl, rfl⟩ rfl rfl rfl rfl rfl (by kernel_rfl) Tryz.func3 closed
    (of_decide_eq_true (by kernel_rfl)) (by unfold Func.isWrapper; first | (rw [if_pos (by decide +kernel)]; kernel_rfl) | (rw [if_neg (by decide +kernel)]; exact ⟨rfl, rfl⟩))
    (fun os started H enc _ => lifted os started H enc)
theorem proved : Rows.PredAsksSaid := over
#print axioms proved
end Go.Proofs.YtciapojlnhiggaaGreat.predAsks
namespace Go.Proofs.YtciapojlnhiggaaGreat
/-- The row, under a short name, for the claim. -/
theorem predAsks_holds : Rows.PredAsksSaid := predAsks.proved
end Go.Proofs.YtciapojlnhiggaaGreat
