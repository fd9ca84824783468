/- PowerStays: the row of the law: whatever the input, it answers true and leaves the input as it was. No conditions. -/
import Derived.Test.YtandibmpaamfbaaRows
import Derived.Test.YtandibmpaamfbaaMa
import Derived.Test.YtandibmpaamfbaaMb
import Derived.Test.YtandibmpaamfbaaMc
import Derived.Test.YtandibmpaamfbaaQc
import Derived.Test.YtandibmpaamfbaaRz
import Derived.Test.YtandibmpaamfbaaWq
import Derived.WalkKit
import Derived.ProofKit
import Derived.OpenShut
import Derived.ShutString
import Derived.ChangeOld
import Derived.Below
import Derived.SizedLaws
set_option linter.unusedVariables false
set_option linter.unusedSimpArgs false
namespace Go.Proofs.Ytandibmpaamfbaa.powerStays
open Go.ChangeShapes Go.WideShapes Go.ChangeAt Go.RowKit
open Go.ChangeMaps (open_string shut_string)
theorem own : ownKnob Try.prog.godebug = none := by kernel_rfl
theorem laidOut : laidOutB Try.prog = true := by kernel_rfl
theorem walk (W : World) (a0 : Int) (w0 : (Lit.int .i64 a0).wf = true) (a1 : Option Addr) (len1 cap1 : Nat) (z1 : List Int) (w1 : Go.RX.Row .i64 W a1 len1 cap1 z1) (y1 : len1 * 8 ≤ 140737488351232) : Calls Try.prog 25 #[.int .i64 a0, .slice a1 len1 cap1] W fun e W' => e = .returned (.bool true) ∧ Below W.heap.size W W' :=
  Go.RX.law_walk (vs := [.int .i64 a0, .slice a1 len1 cap1]) Go.RX.S.PowerStays_ok (a := (a0, z1.take len1)) (Go.RX.S.gu_pos ⟨Go.RX.I64_wf w0, Go.RX.I64s_wf w1.wf w1.len y1⟩) ⟨_, _, rfl, Go.RX.rel_num _ _, ⟨_, _, rfl, w1.rel, rfl⟩⟩ rfl rfl rfl
set_option maxRecDepth 100000 in
theorem lifted (os : Os) (started : os.Started) (H : Type) (enc : TypeId × Value → H) :
    ReturnsInHanded {} Try.checked os 25 .any (Rows.powerStaysSpec.pre6 enc Try.prog Try.f25 Rows.powerStaysRow.domain false) (Rows.powerStaysSpec.post enc Try.prog Try.f25 false true false false) := by
  refine returnsInHanded_of_change_sized (C := Try.checked) own started (by kernel_rfl) Try.func25
    (ChangeSpec.witness6 (enc := enc) (C := Try.checked) false ⟨#[], #[.int .i64 0, .slice none 0 0], []⟩ 8 (by kernel_rfl) (by kernel_rfl) (by kernel_rfl) (by kernel_rfl)) ?_
  intro W base args ds gs before hval0 hW hcnd hsz0 _
  have hval : ∀ (j : Nat) t v, Try.f25.params[j]? = some t → args[j]? = some v → Value.okWide Try.prog W .any base t v := hval0
  have hW' := hW
  have hsz : (DataW.weightsEach Try.prog (Try.f25.params.toList ++ Rows.powerStaysSpec.plain.varTypes Try.prog) (ds ++ gs)).all (· ≤ reachBytes) = true := hsz0
  obtain ⟨p, q, hA0, hV, rfl, hfz, hnd⟩ := hW
  have hA : DataW.TrodAll enc Try.prog W 0 (fun _ => true) true Try.f25.params.toList args.toList ds p := hA0
  rw [Try.params25] at hA hval hsz
  obtain ⟨v0, vs0, d0, ds0, p0, q0, hargs, rfl, rfl, h0, r0⟩ := trodAll_cons hA
  obtain ⟨v1, vs1, d1, ds1, p1, q1, rfl, rfl, rfl, h1, r1⟩ := trodAll_cons r0
  obtain ⟨rfl, rfl, rfl⟩ := trodAll_nil r1
  obtain rfl : args = #[v0, v1] := by cases args; simp_all
  obtain ⟨rfl, rfl⟩ := trodVars_none hV
  obtain ⟨a0, rfl, rfl, rfl, w0⟩ := open_int Try.underlying3 (hval 0 3 v0 rfl rfl) h0
  obtain ⟨a1, len1, cap1, rfl⟩ := okWide_slice Try.underlying93 (hval 1 93 v1 rfl rfl)
  have k1 := h1
  have lt1 : ∀ x ∈ p1, x.block < W.heap.size := by obtain ⟨m, hm⟩ := k1; exact DataW.trod_lt m _ _ _ hm
  obtain ⟨z1, w1⟩ : ∃ zs, Go.RX.Row .i64 W a1 len1 cap1 zs := by
    obtain ⟨fuel, hf⟩ := h1
    obtain ⟨_, _, _, zs, e, w⟩ := Go.RX.Row.of Try.underlying93 Try.underlying3 (by kernel_rfl) hf
    cases e
    exact ⟨zs, w⟩
  have y1 : len1 * 8 ≤ 140737488351232 := by
    obtain ⟨fuel, hf⟩ := h1
    exact Go.RX.sized_row hsz (j := 1) (t := 93) rfl rfl Try.underlying93 Try.underlying3 (by kernel_rfl) (by kernel_rfl) hf
  refine (walk W a0 w0 a1 len1 cap1 z1 w1 y1).mono fun e W' ⟨he, bel⟩ => ?_
  subst he
  exact ⟨_, rfl, _, _, _, [], _, [], hW', trodAll_mk1 (shut_bool Try.underlying4 _), (trodAll_cons_mk (shut_int Try.underlying3 w0) (trodAll_cons_mk (Below.trod laidOut (by kernel_rfl) (of_decide_eq_true (by kernel_rfl)) k1 bel lt1) trodAll_mk0)), rfl, bel.frame _, fun h => by cases h⟩
theorem band {a b : Bool} (ha : a = true) (hb : b = true) : (a && b) = true := by rw [ha, hb]; rfl
theorem closed : joinedFacts Try.checked.prog 25 Try.f25 Rows.powerStaysSpec Rows.powerStaysRow = true := by
  unfold joinedFacts
  exact band (band (band (band (band (band (band (by kernel_rfl) mayEnter) lifts) makes) (by kernel_rfl)) (by kernel_rfl)) (by kernel_rfl)) (by kernel_rfl)
theorem over : Rows.powerStaysRow.holds Try.pinned (OpenSpec.ofChange Rows.powerStaysSpec) :=
  OpenClaim.holds_of_wide 25 Try.f25 rfl rfl rfl rfl rfl rfl rfl ⟨rfl, rfl, rfl, rfl, rfl⟩ rfl rfl rfl rfl rfl (by kernel_rfl) Try.func25 closed
    (of_decide_eq_true (by kernel_rfl)) (by unfold Func.isWrapper; first | (rw [if_pos (by decide +kernel)]; kernel_rfl) | (rw [if_neg (by decide +kernel)]; exact ⟨rfl, rfl⟩))
    (fun os started H enc _ => lifted os started H enc)
theorem proved : Rows.PowerStaysSaid := over
#print axioms proved
end Go.Proofs.Ytandibmpaamfbaa.powerStays
namespace Go.Proofs.Ytandibmpaamfbaa
/-- The row, under a short name, for the claim. -/
theorem powerStays_holds : Rows.PowerStaysSaid := powerStays.proved
end Go.Proofs.Ytandibmpaamfbaa
