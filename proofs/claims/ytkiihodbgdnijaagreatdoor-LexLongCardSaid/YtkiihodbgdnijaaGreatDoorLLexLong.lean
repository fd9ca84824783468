/- LexLong: the row of the law, and its tied card. -/
import Derived.Test.YtkiihodbgdnijaaGreatDoorRows
import Derived.Test.YtkiihodbgdnijaaGreatDoorCards
import Derived.Test.YtkiihodbgdnijaaGreatDoorTie
import Derived.Test.YtkiihodbgdnijaaGreatDoorMa
import Derived.Test.YtkiihodbgdnijaaGreatDoorMb
import Derived.Test.YtkiihodbgdnijaaGreatDoorMc
import Derived.Test.YtkiihodbgdnijaaGreatDoorMd
import Derived.Test.YtkiihodbgdnijaaGreatDoorQc
import Derived.Test.YtkiihodbgdnijaaGreatDoorKb
import Derived.WalkKit
import Derived.ProofKit
import Derived.OpenShut
import Derived.ShutString
import Derived.ChangeOld
import Derived.Below
import Derived.SizedLaws
import Derived.ChangeSame
import Derived.ChangeVars
import Derived.JoinedOf
import Derived.RowKit
import Derived.RowKitTokens
import Derived.LaidLaws
import Derived.LaidHandle
import Derived.Stop.Joined
import Derived.SevenTiedAt
import Derived.Lib.LaidIn
import Derived.Lib.LaidCase
import Derived.Lib.LaidCaseMet
import Derived.PinnedBridge
set_option linter.unusedVariables false
set_option linter.unusedSimpArgs false
namespace Go.Proofs.YtkiihodbgdnijaaGreatDoor.lexLong
open Go.ChangeShapes Go.WideShapes Go.ChangeAt Go.RowKit Go.Lib
open Go.Shelf
theorem own : ownKnob Tryz.prog.godebug = none := by kernel_rfl

/-! ### a world in which the listed variables hold what is listed -/
def flatC : DataW Unit → List Value
  | .agg l => flatL l
  | .lit (.int k n) => [.int k n]
  | _ => []
where flatL : List (DataW Unit) → List Value
  | [] => []
  | x :: r => flatC x ++ flatL r
noncomputable abbrev N0 : Nat := (World.settled Tryz.prog default).heap.size
noncomputable def laidWorld (os : Os) : World :=
  let N := (World.settled Tryz.prog os).heap.size
  let w0 := World.holding Tryz.prog os ⟨#[.cells caseCells5 318, .cells #[.string ⟨#[118, 97, 108, 117, 101, 32, 111, 117, 116, 32, 111, 102, 32, 114, 97, 110, 103, 101]⟩] 321, .cells #[.string ⟨#[105, 110, 118, 97, 108, 105, 100, 32, 115, 121, 110, 116, 97, 120]⟩] 321], #[], []⟩
  let put (h : Array Obj) (g : Nat) (cs : Array Value) : Array Obj := h.modify g fun
    | .cells _ t frozen => .cells cs t frozen
    | o => o
  let h1 := put w0.heap 8 (flatC Rows.laid_math_bits_deBruijn32tab).toArray
  let h2 := put h1 9 (flatC Rows.laid_math_bits_deBruijn64tab).toArray
  let h3 := put h2 2 (flatC Rows.laid_internal_strconv_uint64pow10).toArray
  let h4 := put h3 5 (flatC Rows.laid_unicode_utf8_acceptRanges).toArray
  let h5 := put h4 7 #[.iface 319 (.pointer (some ⟨N + 1, 0, none⟩))]
  let h6 := put h5 6 #[.iface 319 (.pointer (some ⟨N + 2, 0, none⟩))]
  let h7 := put h6 3 #[.slice (some ⟨N, 0, none⟩) caseA.size caseA.size]
  let h8 := put h7 4 (flatC Rows.laid_unicode_utf8_first).toArray
  { w0 with heap := h8 }
set_option maxRecDepth 1000000 in
theorem piece1 (os : Os) (args : Array Value) : LaidIn Tryz.prog ((laidWorld os).forCall (fun _ _ => 0) ⟨#[], args, []⟩).memory [("math/bits.deBruijn32tab", Rows.laid_math_bits_deBruijn32tab), ("math/bits.deBruijn64tab", Rows.laid_math_bits_deBruijn64tab), ("internal/strconv.uint64pow10", Rows.laid_internal_strconv_uint64pow10), ("unicode/utf8.acceptRanges", Rows.laid_unicode_utf8_acceptRanges), ("strconv.ErrRange", Rows.laid_strconv_ErrRange), ("strconv.ErrSyntax", Rows.laid_strconv_ErrSyntax)] [8, 9, 2, 5, 7, 6, N0 + 1, N0 + 2] :=
  LaidIn.of_run [8, 9, 2, 5, 7, 6, N0 + 1, N0 + 2] 8 (by kernel_rfl) (by kernel_rfl) (by kernel_rfl) (by kernel_rfl)
set_option maxRecDepth 1000000 in
theorem piece3 (os : Os) (args : Array Value) : LaidIn Tryz.prog ((laidWorld os).forCall (fun _ _ => 0) ⟨#[], args, []⟩).memory [("unicode/utf8.first", Rows.laid_unicode_utf8_first)] [4] :=
  LaidIn.of_run [4] 8 (by kernel_rfl) (by kernel_rfl) (by kernel_rfl) (by kernel_rfl)
theorem laidIn_case {P : Program} {ρ : Ren} (L : Lays.n274 P ρ) (t206 : P.underlying (ρ.t 206) = some (.array 3 (ρ.t 21))) (X : CaseExtra P ρ) {w : World} (R : Nat) (t : TypeId) (hgR : ρ.g 13 ≠ R)
    (hvar : w.heap[ρ.g 13]? = some (.cells #[.slice (some ⟨R, 0, none⟩) caseA.size caseA.size] (ρ.t 162) (0, 0)))
    (hblk : w.heap[R]? = some (.cells caseCells5 t (0, 0))) : LaidIn P w [("unicode.CaseRanges", caseData)] [ρ.g 13, R] := by
  have hT := caseTab_of_block hblk
  have hread := case_slice_reads L t206 X hT caseA_wf (by rw [caseA_size]; unfold maxLen; omega) 0
  rw [case_rows_data] at hread
  have hv : w.var? P "unicode.CaseRanges" = some #[.slice (some ⟨R, 0, none⟩) caseA.size caseA.size] := by simp [World.var?, X.n13, hvar]
  refine LaidIn.one [ρ.g 13, R] X.n13 X.y13 hv hread ?_ ?_ ?_
  · refine List.nodup_append.2 ⟨row_nodup _ _, row_nodup _ _, ?_⟩
    intro a ha b hb e
    obtain ⟨i, _, rfl⟩ := MemPlace.mem_row.1 ha
    obtain ⟨j, _, rfl⟩ := MemPlace.mem_row.1 hb
    simp at e
    exact hgR e.1
  · intro b off hp
    rcases List.mem_append.1 hp with hp | hp
    · obtain ⟨i, hi, e⟩ := MemPlace.mem_row.1 hp
      cases e
      refine ⟨⟨_, _, hvar⟩, fun u v hc => ?_⟩
      obtain rfl : i = 0 := by
        have : (#[Value.slice (some ⟨R, 0, none⟩) caseA.size caseA.size]).size = 1 := rfl
        omega
      rw [Lib.cell_of_heap hvar] at hc
      simp at hc
    · obtain ⟨i, hi, e⟩ := MemPlace.mem_row.1 hp
      cases e
      refine ⟨⟨_, _, hblk⟩, fun u v hc => ?_⟩
      obtain ⟨c0, c1, c2, c3, c4⟩ := hT (i / 5) (by omega)
      have hi5 : 0 + i = 0 + i / 5 * 5 + i % 5 := by omega
      simp only at hc
      rw [hi5] at hc
      have hm : i % 5 < 5 := Nat.mod_lt _ (by omega)
      match hk : i % 5, hm with
      | 0, _ => rw [hk, Nat.add_zero, c0] at hc; cases hc
      | 1, _ => rw [hk, c1] at hc; cases hc
      | 2, _ => rw [hk, c2] at hc; cases hc
      | 3, _ => rw [hk, c3] at hc; cases hc
      | 4, _ => rw [hk, c4] at hc; cases hc
  · intro x hx
    rcases List.mem_append.1 hx with hp | hp
    · obtain ⟨i, hi, rfl⟩ := MemPlace.mem_row.1 hp
      exact .head _
    · obtain ⟨i, hi, rfl⟩ := MemPlace.mem_row.1 hp
      exact .tail _ (.head _)
def ren : Ren := { Tryz.lays274_ren with g := fun _ => 3 }
theorem L274 : Lays.n274 Tryz.prog ren := { Tryz.lays274 with }
set_option maxRecDepth 1000000 in
theorem piece2 (os : Os) (args : Array Value) : LaidIn Tryz.prog ((laidWorld os).forCall (fun _ _ => 0) ⟨#[], args, []⟩).memory [("unicode.CaseRanges", Rows.laid_unicode_CaseRanges)] [3, N0] := by
  have := laidIn_case (P := Tryz.prog) (ρ := ren) L274 (by kernel_rfl) ⟨by kernel_rfl, by kernel_rfl, by kernel_rfl, by kernel_rfl, by kernel_rfl, by kernel_rfl⟩ (w := ((laidWorld os).forCall (fun _ _ => 0) ⟨#[], args, []⟩).memory) N0 318 (of_decide_eq_true (by kernel_rfl)) (by kernel_rfl) (by kernel_rfl)
  rw [← Pinned.caseRanges_eq] at this
  exact this
theorem laid_met (os : Os) (args : Array Value) : laidMet Tryz.prog Rows.lexLongRow.laid ((laidWorld os).forCall (fun _ _ => 0) ⟨#[], args, []⟩).memory :=
  (((piece1 os args).append (piece2 os args) (by kernel_rfl)).append (piece3 os args) (by kernel_rfl)).met

/-! ### the row -/
theorem wfI {n : Int} (h : (Lit.int .i64 n).wf = true) : decide (-9223372036854775808 ≤ n) = true ∧ decide (n ≤ 9223372036854775807) = true := by
  have h : (decide ((-9223372036854775808 : Int) ≤ n) && decide (n ≤ 9223372036854775807)) = true := h
  rwa [Bool.and_eq_true] at h
theorem fn_ok {a b : Int} (ha : (Lit.int .i64 a).wf = true) (hb : (Lit.int .i64 b).wf = true) : Go.RX.S.LexLongF (a, b) = some true := by
  obtain ⟨a1, a2⟩ := wfI ha
  obtain ⟨b1, b2⟩ := wfI hb
  unfold Go.RX.S.LexLongF
  dsimp only
  rw [a1, a2, b1, b2]
  rfl
theorem walk (W : World) (a0 : Int) (w0 : (Lit.int .i64 a0).wf = true) (a1 : Int) (w1 : (Lit.int .i64 a1).wf = true) : Calls Tryz.prog 4 #[.int .i64 a0, .int .i64 a1] W fun e W' => e = .returned (.bool true) ∧ Below W.heap.size W W' :=
  Go.RX.law_walk (vs := [.int .i64 a0, .int .i64 a1]) Go.RX.S.LexLong_ok (a := (a0, a1)) (fn_ok w0 w1) (fun p hp => absurd hp List.not_mem_nil) ⟨_, _, rfl, Go.RX.S.rint, ⟨_, _, rfl, Go.RX.S.rint, rfl⟩⟩ rfl rfl rfl
theorem holds0 (m : Machine) : ({} : Assume).holds Tryz.checked.prog m := by
  simp only [Assume.holds]
  exact ⟨by simp, by simp, fun h => (by cases h), by simp, by simp⟩
set_option maxRecDepth 100000 in
theorem lifted (os : Os) (started : os.Started) (H : Type) (enc : TypeId × Value → H) :
    ReturnsInHanded {} Tryz.checked os 4 .any (fun w args => (Rows.lexLongSpec.pre enc Tryz.prog Tryz.f4 [] false w args ∧ laidMetH Tryz.prog Rows.lexLongRow.laid w) ∧ sizedMet enc Tryz.prog Tryz.f4 (OpenSpec.ofChange Rows.lexLongSpec) false w args)
      (Rows.lexLongSpec.post enc Tryz.prog Tryz.f4 false true false false) := by
  refine returnsInHanded_of_change_and (C := Tryz.checked) (X := fun w _ => laidMetH Tryz.prog Rows.lexLongRow.laid w) (fun _ _ _ hh h => h.of_heap hh) own started (by kernel_rfl) Tryz.func4
    ⟨laidWorld os, fun _ _ => 0, ⟨#[], #[.int .i64 0, .int .i64 0], []⟩, rfl, World.shaped_of_RefB (by kernel_rfl) (by kernel_rfl), rfl, (Input.okWide_of_okWideB (by kernel_rfl)).2, ⟨⟨ChangeSpec.pre_of_preB (fuel := 8) (by kernel_rfl), laid_met os _⟩, sizedMet_of_sizedB (fuel := 8) (by kernel_rfl)⟩, holds0 _⟩ ?_
  intro W base args ds gs before hval0 hW _ _ hL _
  have hval : ∀ (j : Nat) t v, Tryz.f4.params[j]? = some t → args[j]? = some v → Value.okWide Tryz.prog W .any base t v := hval0
  have hW' := hW
  obtain ⟨p, q, hA0, hV, rfl, hfz, hnd⟩ := hW
  have hA : DataW.TrodAll enc Tryz.prog W 0 (fun _ => true) true Tryz.f4.params.toList args.toList ds p := hA0
  rw [Tryz.params4] at hA hval
  obtain ⟨v0, vs0, d0, ds0, p0, q0, hargs, rfl, rfl, h0, r0⟩ := trodAll_cons hA
  obtain ⟨v1, vs1, d1, ds1, p1, q1, rfl, rfl, rfl, h1, r1⟩ := trodAll_cons r0
  obtain ⟨rfl, rfl, rfl⟩ := trodAll_nil r1
  obtain rfl : args = #[v0, v1] := by cases args; simp_all
  obtain ⟨rfl, rfl⟩ := trodVars_none hV
  obtain ⟨a0, rfl, rfl, rfl, w0⟩ := open_int Tryz.underlying3 (hval 0 3 v0 rfl rfl) h0
  obtain ⟨a1, rfl, rfl, rfl, w1⟩ := open_int Tryz.underlying3 (hval 1 3 v1 rfl rfl) h1
  refine (walk W a0 w0 a1 w1).mono fun e W' ⟨he, bel⟩ => ?_
  subst he
  exact ⟨_, rfl, _, _, _, [], _, [], hW', trodAll_mk1 (shut_bool Tryz.underlying4 _), (trodAll_cons_mk (shut_int Tryz.underlying3 w0) (trodAll_cons_mk (shut_int Tryz.underlying3 w1) trodAll_mk0)), rfl, bel.frame _, fun h => by cases h⟩
theorem band {a b : Bool} (ha : a = true) (hb : b = true) : (a && b) = true := by rw [ha, hb]; rfl
theorem closed : joinedFacts Tryz.checked.prog 4 Tryz.f4 Rows.lexLongSpec Rows.lexLongRow = true := by
  unfold joinedFacts
  exact band (band (band (band (band (band (band (by kernel_rfl) mayEnter) lifts) makes) (by kernel_rfl)) (by kernel_rfl)) (by kernel_rfl)) (by kernel_rfl)
theorem over : Rows.LexLongSaid :=
  OpenClaim.holds_of_wide 4 Tryz.f4 rfl rfl rfl rfl rfl rfl rfl ⟨rfl, rfl, rfl, rfl, rfl⟩ rfl rfl rfl rfl rfl (by kernel_rfl) Tryz.func4 closed
    (of_decide_eq_true (by kernel_rfl)) (by unfold Func.isWrapper; rw [if_neg (of_decide_eq_false (by kernel_rfl))]; exact ⟨rfl, rfl⟩)
    (fun os started H enc _ => lifted os started H enc)
theorem wf0 : Rows.lexLongRow.wfByText (OpenSpec.ofChange Rows.lexLongSpec) = true := by kernel_rfl
theorem goes0 : false = Rows.lexLongRow.goesBy Tryz.pinned.checked.prog := by kernel_rfl
theorem named0 : Tryz.prog.funcNamed "plumb/plumblaw09.LexLong" = some 4 := by kernel_rfl
theorem alone0 : Tryz.prog.wantsStandIn 3 = false := by kernel_rfl
/-- THE TIED CARD. -/
theorem card : Rows.LexLongCardSaid :=
  Claim7.holds_tied_plain_at .later [] [.data, .data, .data, .data, .sentinel, .sentinel, .pinned, .pinned] true (true, "7394cf8a0a0649f75bcb066a7d0e6bf9e10d61b70e5b050d6951ca709b1cec20") true
    over (fun _ h => by cases h) wf0 (fun _ h => by cases h) lexLong_row_tie rfl ⟨rfl, rfl⟩ mainIs rfl
    (fun f fn hf hfn => by
      obtain rfl : f = 4 := Option.some.inj (named0.symm.trans hf) |>.symm
      obtain rfl : fn = Tryz.f4 := (Option.some.inj (Tryz.func4.symm.trans hfn)).symm
      exact ⟨looks0, fun j t ht => by
        rw [Tryz.params4] at ht
        have h3 : t = 3 := by
          rcases j with _ | _ | j
          · simpa using ht.symm
          · simpa using ht.symm
          · simp at ht
        subst h3
        exact alone0⟩)
    goes0
#print axioms card
end Go.Proofs.YtkiihodbgdnijaaGreatDoor.lexLong
namespace Go.Proofs.YtkiihodbgdnijaaGreatDoor
/-- The row, under a short name, for the claim. -/
theorem lexLong_holds : Rows.LexLongCardSaid := lexLong.card
end Go.Proofs.YtkiihodbgdnijaaGreatDoor
