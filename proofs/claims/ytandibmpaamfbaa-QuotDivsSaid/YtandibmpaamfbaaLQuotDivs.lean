/- QuotDivs: the row of the law: whatever the input, it answers true and leaves the input as it was. No conditions. -/
import Derived.Test.YtandibmpaamfbaaRows
import Derived.Test.YtandibmpaamfbaaMa
import Derived.Test.YtandibmpaamfbaaMb
import Derived.Test.YtandibmpaamfbaaMc
import Derived.Test.YtandibmpaamfbaaQc
import Derived.Test.YtandibmpaamfbaaRz
import Derived.Test.YtandibmpaamfbaaWl
import Derived.WalkKit
import Derived.ProofKit
import Derived.OpenShut
import Derived.ShutString
import Derived.ChangeOld
import Derived.Below
import Derived.SizedLaws
set_option linter.unusedVariables false
set_option linter.unusedSimpArgs false
namespace Go.Proofs.Ytandibmpaamfbaa.quotDivs
open Go.ChangeShapes Go.WideShapes Go.ChangeAt Go.RowKit
open Go.ChangeMaps (open_string shut_string)
theorem own : ownKnob Try.prog.godebug = none := by kernel_rfl
theorem laidOut : laidOutB Try.prog = true := by kernel_rfl
theorem walk (W : World) (a0 : Option Addr) (len0 cap0 : Nat) (z0 : List Int) (w0 : Go.RX.Row .u64 W a0 len0 cap0 z0) (y0 : len0 * 8 ≤ 140737488351232) (a1 : Option Addr) (len1 cap1 : Nat) (z1 : List Int) (w1 : Go.RX.Row .u64 W a1 len1 cap1 z1) (y1 : len1 * 8 ≤ 140737488351232) (a2 : Int) (w2 : (Lit.int .u64 a2).wf = true) : Calls Try.prog 13 #[.slice a0 len0 cap0, .slice a1 len1 cap1, .int .u64 a2] W fun e W' => e = .returned (.bool true) ∧ Below W.heap.size W W' :=
  Go.RX.law_walk (vs := [.slice a0 len0 cap0, .slice a1 len1 cap1, .int .u64 a2]) Go.RX.S.QuotDivs_ok (a := (z0.take len0, z1.take len1, a2)) (Go.RX.S.gu_pos ⟨Go.RX.L_wf w0.wf w0.len y0, Go.RX.L_wf w1.wf w1.len y1, Go.RX.Wd_wf w2⟩) ⟨_, _, rfl, w0.rel, ⟨_, _, rfl, w1.rel, ⟨_, _, rfl, Go.RX.rel_num _ _, rfl⟩⟩⟩ rfl rfl rfl
set_option maxRecDepth 100000 in
theorem lifted (os : Os) (started : os.Started) (H : Type) (enc : TypeId × Value → H) :
    ReturnsInHanded {} Try.checked os 13 .any (Rows.quotDivsSpec.pre6 enc Try.prog Try.f13 Rows.quotDivsRow.domain false) (Rows.quotDivsSpec.post enc Try.prog Try.f13 false true false false) := by
  refine returnsInHanded_of_change_sized (C := Try.checked) own started (by kernel_rfl) Try.func13
    (ChangeSpec.witness6 (enc := enc) (C := Try.checked) false ⟨#[], #[.slice none 0 0, .slice none 0 0, .int .u64 0], []⟩ 8 (by kernel_rfl) (by kernel_rfl) (by kernel_rfl) (by kernel_rfl)) ?_
  intro W base args ds gs before hval0 hW hcnd hsz0 _
  have hval : ∀ (j : Nat) t v, Try.f13.params[j]? = some t → args[j]? = some v → Value.okWide Try.prog W .any base t v := hval0
  have hW' := hW
  have hsz : (DataW.weightsEach Try.prog (Try.f13.params.toList ++ Rows.quotDivsSpec.plain.varTypes Try.prog) (ds ++ gs)).all (· ≤ reachBytes) = true := hsz0
  obtain ⟨p, q, hA0, hV, rfl, hfz, hnd⟩ := hW
  have hA : DataW.TrodAll enc Try.prog W 0 (fun _ => true) true Try.f13.params.toList args.toList ds p := hA0
  rw [Try.params13] at hA hval hsz
  obtain ⟨v0, vs0, d0, ds0, p0, q0, hargs, rfl, rfl, h0, r0⟩ := trodAll_cons hA
  obtain ⟨v1, vs1, d1, ds1, p1, q1, rfl, rfl, rfl, h1, r1⟩ := trodAll_cons r0
  obtain ⟨v2, vs2, d2, ds2, p2, q2, rfl, rfl, rfl, h2, r2⟩ := trodAll_cons r1
  obtain ⟨rfl, rfl, rfl⟩ := trodAll_nil r2
  obtain rfl : args = #[v0, v1, v2] := by cases args; simp_all
  obtain ⟨rfl, rfl⟩ := trodVars_none hV
  obtain ⟨a0, len0, cap0, rfl⟩ := okWide_slice Try.underlying22 (hval 0 22 v0 rfl rfl)
  have k0 := h0
  have lt0 : ∀ x ∈ p0, x.block < W.heap.size := by obtain ⟨m, hm⟩ := k0; exact DataW.trod_lt m _ _ _ hm
  obtain ⟨z0, w0⟩ : ∃ zs, Go.RX.Row .u64 W a0 len0 cap0 zs := by
    obtain ⟨fuel, hf⟩ := h0
    obtain ⟨_, _, _, zs, e, w⟩ := Go.RX.Row.of Try.underlying22 Try.underlying36 (by kernel_rfl) hf
    cases e
    exact ⟨zs, w⟩
  have y0 : len0 * 8 ≤ 140737488351232 := by
    obtain ⟨fuel, hf⟩ := h0
    exact Go.RX.sized_row hsz (j := 0) (t := 22) rfl rfl Try.underlying22 Try.underlying36 (by kernel_rfl) (by kernel_rfl) hf
  obtain ⟨a1, len1, cap1, rfl⟩ := okWide_slice Try.underlying22 (hval 1 22 v1 rfl rfl)
  have k1 := h1
  have lt1 : ∀ x ∈ p1, x.block < W.heap.size := by obtain ⟨m, hm⟩ := k1; exact DataW.trod_lt m _ _ _ hm
  obtain ⟨z1, w1⟩ : ∃ zs, Go.RX.Row .u64 W a1 len1 cap1 zs := by
    obtain ⟨fuel, hf⟩ := h1
    obtain ⟨_, _, _, zs, e, w⟩ := Go.RX.Row.of Try.underlying22 Try.underlying36 (by kernel_rfl) hf
    cases e
    exact ⟨zs, w⟩
  have y1 : len1 * 8 ≤ 140737488351232 := by
    obtain ⟨fuel, hf⟩ := h1
    exact Go.RX.sized_row hsz (j := 1) (t := 22) rfl rfl Try.underlying22 Try.underlying36 (by kernel_rfl) (by kernel_rfl) hf
  obtain ⟨a2, rfl, rfl, rfl, w2⟩ := open_int Try.underlying36 (hval 2 36 v2 rfl rfl) h2
  refine (walk W a0 len0 cap0 z0 w0 y0 a1 len1 cap1 z1 w1 y1 a2 w2).mono fun e W' ⟨he, bel⟩ => ?_
  subst he
  exact ⟨_, rfl, _, _, _, [], _, [], hW', trodAll_mk1 (shut_bool Try.underlying4 _), (trodAll_cons_mk (Below.trod laidOut (by kernel_rfl) (of_decide_eq_true (by kernel_rfl)) k0 bel lt0) (trodAll_cons_mk (Below.trod laidOut (by kernel_rfl) (of_decide_eq_true (by kernel_rfl)) k1 bel lt1) (trodAll_cons_mk (shut_int Try.underlying36 w2) trodAll_mk0))), rfl, bel.frame _, fun h => by cases h⟩
theorem band {a b : Bool} (ha : a = true) (hb : b = true) : (a && b) = true := by rw [ha, hb]; rfl
theorem closed : joinedFacts Try.checked.prog 13 Try.f13 Rows.quotDivsSpec Rows.quotDivsRow = true := by
  unfold joinedFacts
  exact band (band (band (band (band (band (band (by kernel_rfl) mayEnter) lifts) makes) (by kernel_rfl)) (by kernel_rfl)) (by kernel_rfl)) (by kernel_rfl)
theorem over : Rows.quotDivsRow.holds Try.pinned (OpenSpec.ofChange Rows.quotDivsSpec) :=
  OpenClaim.holds_of_wide 13 Try.f13 rfl rfl rfl rfl rfl rfl rfl ⟨rfl, rfl, rfl, rfl, rfl⟩ rfl rfl rfl rfl rfl (by kernel_rfl) Try.func13 closed
    (of_decide_eq_true (by kernel_rfl)) (by unfold Func.isWrapper; first | (rw [if_pos (by decide +kernel)]; kernel_rfl) | (rw [if_neg (by decide +kernel)]; exact ⟨rfl, rfl⟩))
    (fun os started H enc _ => lifted os started H enc)
theorem proved : Rows.QuotDivsSaid := over
#print axioms proved
end Go.Proofs.Ytandibmpaamfbaa.quotDivs
namespace Go.Proofs.Ytandibmpaamfbaa
/-- The row, under a short name, for the claim. -/
theorem quotDivs_holds : Rows.QuotDivsSaid := quotDivs.proved
end Go.Proofs.Ytandibmpaamfbaa
