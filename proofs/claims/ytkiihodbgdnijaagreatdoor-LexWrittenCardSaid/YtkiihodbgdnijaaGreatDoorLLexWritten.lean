/- LexWritten: the row of the law, and its tied card: whatever the input, it answers true and leaves the input as it was. No conditions. -/
import Derived.Test.YtkiihodbgdnijaaGreatDoorRows
import Derived.Test.YtkiihodbgdnijaaGreatDoorCards
import Derived.Test.YtkiihodbgdnijaaGreatDoorTie
import Derived.Test.YtkiihodbgdnijaaGreatDoorMa
import Derived.Test.YtkiihodbgdnijaaGreatDoorMb
import Derived.Test.YtkiihodbgdnijaaGreatDoorMc
import Derived.Test.YtkiihodbgdnijaaGreatDoorMd
import Derived.Test.YtkiihodbgdnijaaGreatDoorQf
import Derived.Test.YtkiihodbgdnijaaGreatDoorMe
import Derived.Test.YtkiihodbgdnijaaGreatDoorKg
import Derived.WalkKit
import Derived.ProofKit
import Derived.OpenShut
import Derived.ShutString
import Derived.ChangeOld
import Derived.Below
import Derived.SizedLaws
import Derived.ChangeSame
import Derived.ChangeVars
import Derived.JoinedOf
import Derived.RowKit
import Derived.RowKitTokens
import Derived.LaidLaws
import Derived.LaidHandle
import Derived.Stop.Joined
import Derived.SevenTiedAt
import Derived.PinnedBridge
set_option linter.unusedVariables false
set_option linter.unusedSimpArgs false
namespace Go.Proofs.YtkiihodbgdnijaaGreatDoor.lexWritten
open Go.ChangeShapes Go.WideShapes Go.ChangeAt Go.RowKit Go.Lib
open Go.Shelf
open Laid (laidWorld)
theorem own : ownKnob Tryz.prog.godebug = none := by kernel_rfl
theorem laidOut : laidOutB Tryz.prog = true := by kernel_rfl
theorem walk (W : World) (hG : Go.RX.Glob W (fun g => g < W.heap.size)) {v0 : Value} {z0 : Go.RX.AV} (a0 : Go.RX.Arg W (.st [.int .i64, .int .i64, .sl (.int .i64), .sl (.int .i64), .bool, .bool, .int .i64, .bool, .bool]) z0 v0) {v1 : Value} {z1 : Go.RX.AV} (a1 : Go.RX.Arg W (.str) z1 v1) {v2 : Value} {z2 : Go.RX.AV} (a2 : Go.RX.Arg W (.str) z2 v2) : Calls Tryz.prog 5 #[v0, v1, v2] W fun e W' => e = .returned (.bool true) ∧ Below W.heap.size W W' :=
  Go.RX.law_told (vs := [v0, v1, v2]) (zs := [z0, z1, z2]) Go.RX.S.LexWritten_ok hG rfl (Go.RX.band a0.wt (Go.RX.band a1.wt (Go.RX.band a2.wt rfl))) ⟨_, _, rfl, a0.rel, ⟨_, _, rfl, a1.rel, ⟨_, _, rfl, a2.rel, rfl⟩⟩⟩ (Go.RX.S.LexWritten_gu a0 a1 a2)
theorem holds0 (m : Machine) : ({} : Assume).holds Tryz.checked.prog m := by
  simp only [Assume.holds]
  exact ⟨by simp, by simp, fun h => (by cases h), by simp, by simp⟩
set_option maxRecDepth 1000000 in
theorem laid_is (W : World) : laidMetH Tryz.prog Rows.lexWrittenRow.laid W = laidMetH Tryz.prog Laid.L8 W := by rfl
set_option maxRecDepth 100000 in
theorem lifted (os : Os) (started : os.Started) (H : Type) (enc : TypeId × Value → H) :
    ReturnsInHanded {} Tryz.checked os 5 .any (fun w args => (Rows.lexWrittenSpec.pre enc Tryz.prog Tryz.f5 [] false w args ∧ laidMetH Tryz.prog Rows.lexWrittenRow.laid w) ∧ sizedMet enc Tryz.prog Tryz.f5 (OpenSpec.ofChange Rows.lexWrittenSpec) false w args)
      (Rows.lexWrittenSpec.post enc Tryz.prog Tryz.f5 false true false false) := by
  refine returnsInHanded_of_change_and (C := Tryz.checked) (X := fun w _ => laidMetH Tryz.prog Rows.lexWrittenRow.laid w) (fun _ _ _ hh h => h.of_heap hh) own started (by kernel_rfl) Tryz.func5
    ⟨laidWorld os, fun _ _ => 0, ⟨#[], #[.agg #[.int .i64 0, .int .i64 0, .slice none 0 0, .slice none 0 0, .bool false, .bool false, .int .i64 0, .bool false, .bool false], .string ByteArray.empty, .string ByteArray.empty], []⟩, rfl, World.shaped_of_RefB (by kernel_rfl) (by kernel_rfl), rfl, (Input.okWide_of_okWideB (by kernel_rfl)).2, ⟨⟨ChangeSpec.pre_of_preB (fuel := 8) (by kernel_rfl), by rw [laid_is]; exact Laid.laid_met os _⟩, sizedMet_of_sizedB (fuel := 8) (by kernel_rfl)⟩, holds0 _⟩ ?_
  intro W base args ds gs before hval0 hW _ _ hL hS
  rw [laid_is] at hL
  have hG := Laid.glob_met hL
  have hval : ∀ (j : Nat) t v, Tryz.f5.params[j]? = some t → args[j]? = some v → Value.okWide Tryz.prog W .any base t v := hval0
  have hW' := hW
  obtain ⟨p, q, hA0, hV, rfl, hfz, hnd⟩ := hW
  have hA : DataW.TrodAll enc Tryz.prog W 0 (fun _ => true) true Tryz.f5.params.toList args.toList ds p := hA0
  rw [Tryz.params5] at hA hval
  obtain ⟨v0, vs0, d0, ds0, p0, q0, hargs, rfl, rfl, h0, r0⟩ := trodAll_cons hA
  obtain ⟨v1, vs1, d1, ds1, p1, q1, rfl, rfl, rfl, h1, r1⟩ := trodAll_cons r0
  obtain ⟨v2, vs2, d2, ds2, p2, q2, rfl, rfl, rfl, h2, r2⟩ := trodAll_cons r1
  obtain ⟨rfl, rfl, rfl⟩ := trodAll_nil r2
  obtain rfl : args = #[v0, v1, v2] := by cases args; simp_all
  obtain ⟨rfl, rfl⟩ := trodVars_none hV
  have k0 := h0
  have lt0 : ∀ x ∈ p0, x.block < W.heap.size := by obtain ⟨m, hm⟩ := k0; exact DataW.trod_lt m _ _ _ hm
  obtain ⟨c0, rfl, s0⟩ := okWide_struct Tryz.underlying50 (hval 0 50 v0 rfl rfl)
  obtain ⟨z0, a0⟩ : ∃ z, Go.RX.Arg W (.st [.int .i64, .int .i64, .sl (.int .i64), .sl (.int .i64), .bool, .bool, .int .i64, .bool, .bool]) z (.agg c0) := by
    obtain ⟨fuel, hf⟩ := h0
    exact Go.RX.arg_st (n := 8) (t := 50) (by kernel_rfl) hf
  have k1 := h1
  have lt1 : ∀ x ∈ p1, x.block < W.heap.size := by obtain ⟨m, hm⟩ := k1; exact DataW.trod_lt m _ _ _ hm
  obtain ⟨b1, rfl⟩ := okWide_string Tryz.underlying9 (hval 1 9 v1 rfl rfl)
  obtain ⟨z1, a1⟩ : ∃ z, Go.RX.Arg W (.str) z (.string b1) := by
    obtain ⟨fuel, hf⟩ := h1
    exact Go.RX.arg_leaf (n := 8) (t := 9) (by kernel_rfl) hf
  have k2 := h2
  have lt2 : ∀ x ∈ p2, x.block < W.heap.size := by obtain ⟨m, hm⟩ := k2; exact DataW.trod_lt m _ _ _ hm
  obtain ⟨b2, rfl⟩ := okWide_string Tryz.underlying9 (hval 2 9 v2 rfl rfl)
  obtain ⟨z2, a2⟩ : ∃ z, Go.RX.Arg W (.str) z (.string b2) := by
    obtain ⟨fuel, hf⟩ := h2
    exact Go.RX.arg_leaf (n := 8) (t := 9) (by kernel_rfl) hf
  refine (walk W hG a0 a1 a2).mono fun e W' ⟨he, bel⟩ => ?_
  subst he
  exact ⟨_, rfl, _, _, _, [], _, [], hW', trodAll_mk1 (shut_bool Tryz.underlying4 _), (trodAll_cons_mk (Below.trod laidOut (by kernel_rfl) (of_decide_eq_true (by kernel_rfl)) k0 bel lt0) (trodAll_cons_mk (Below.trod laidOut (by kernel_rfl) (of_decide_eq_true (by kernel_rfl)) k1 bel lt1) (trodAll_cons_mk (Below.trod laidOut (by kernel_rfl) (of_decide_eq_true (by kernel_rfl)) k2 bel lt2) trodAll_mk0))), rfl, bel.frame _, fun h => by cases h⟩
theorem band {a b : Bool} (ha : a = true) (hb : b = true) : (a && b) = true := by rw [ha, hb]; rfl
theorem closed : joinedFacts Tryz.checked.prog 5 Tryz.f5 Rows.lexWrittenSpec Rows.lexWrittenRow = true := by
  unfold joinedFacts
  exact band (band (band (band (band (band (band (by kernel_rfl) mayEnter) lifts) makes) (by kernel_rfl)) (by kernel_rfl)) (by kernel_rfl)) (by kernel_rfl)
theorem over : Rows.LexWrittenSaid :=
  OpenClaim.holds_of_wide 5 Tryz.f5 rfl rfl rfl rfl rfl rfl rfl ⟨rfl, rfl, rfl, rfl, rfl⟩ rfl rfl rfl rfl rfl (by kernel_rfl) Tryz.func5 closed
    (of_decide_eq_true (by kernel_rfl)) (by unfold Func.isWrapper; rw [if_neg (of_decide_eq_false (by kernel_rfl))]; exact ⟨rfl, rfl⟩)
    (fun os started H enc _ => lifted os started H enc)
theorem wf0 : Rows.lexWrittenRow.wfByText (OpenSpec.ofChange Rows.lexWrittenSpec) = true := by kernel_rfl
theorem goes0 : false = Rows.lexWrittenRow.goesBy Tryz.pinned.checked.prog := by kernel_rfl
theorem named0 : Tryz.prog.funcNamed "plumb/plumblaw09.LexWritten" = some 5 := by kernel_rfl
theorem alone0 : Tryz.prog.wantsStandIn 50 = false := by kernel_rfl
theorem alone1 : Tryz.prog.wantsStandIn 9 = false := by kernel_rfl
/-- THE TIED CARD. -/
theorem card : Rows.LexWrittenCardSaid :=
  Claim7.holds_tied_plain_at .later [] [.data, .data, .data, .data, .sentinel, .sentinel, .pinned, .pinned] true (true, "7394cf8a0a0649f75bcb066a7d0e6bf9e10d61b70e5b050d6951ca709b1cec20") true
    over (fun _ h => by cases h) wf0 (fun _ h => by cases h) lexWritten_row_tie rfl ⟨rfl, rfl⟩ mainIs rfl
    (fun f fn hf hfn => by
      obtain rfl : f = 5 := Option.some.inj (named0.symm.trans hf) |>.symm
      obtain rfl : fn = Tryz.f5 := (Option.some.inj (Tryz.func5.symm.trans hfn)).symm
      exact ⟨looks0, fun j t ht => by
        rw [Tryz.params5] at ht
        rcases j with _ | _ | _ | j
        · obtain rfl : t = 50 := by simpa using ht.symm
          exact alone0
        · obtain rfl : t = 9 := by simpa using ht.symm
          exact alone1
        · obtain rfl : t = 9 := by simpa using ht.symm
          exact alone1
        · simp at ht⟩)
    goes0
#print axioms card
end Go.Proofs.YtkiihodbgdnijaaGreatDoor.lexWritten
namespace Go.Proofs.YtkiihodbgdnijaaGreatDoor
/-- The row, under a short name, for the claim. -/
theorem lexWritten_holds : Rows.LexWrittenCardSaid := lexWritten.card
end Go.Proofs.YtkiihodbgdnijaaGreatDoor
