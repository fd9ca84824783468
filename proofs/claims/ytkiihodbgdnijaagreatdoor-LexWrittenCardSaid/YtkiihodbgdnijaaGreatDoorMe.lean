/- The package-level variables that the rows of Lex list: a world that holds them; and what is read of them. -/
import Derived.Test.YtkiihodbgdnijaaGreatDoorRows
import Derived.Test.YtkiihodbgdnijaaGreatDoorQf
import Derived.Test.YtkiihodbgdnijaaGreatDoorHs
import Derived.WalkKit
import Derived.ProofKit
import Derived.LaidLaws
import Derived.LaidHandle
import Derived.Lib.LaidIn
import Derived.Lib.LaidCase
import Derived.Lib.LaidCaseMet
import Derived.Lib.LaidTab
import Derived.PinnedBridge
set_option linter.unusedVariables false
set_option linter.unusedSimpArgs false
namespace Go.Proofs.YtkiihodbgdnijaaGreatDoor.Laid
open Go.ChangeShapes Go.WideShapes Go.ChangeAt Go.RowKit Go.Lib
open Go.Shelf
/-! ### a world in which the listed variables hold what is listed -/
def flatC : DataW Unit → List Value
  | .agg l => flatL l
  | .lit (.int k n) => [.int k n]
  | _ => []
where flatL : List (DataW Unit) → List Value
  | [] => []
  | x :: r => flatC x ++ flatL r
noncomputable abbrev N0 : Nat := (World.settled Tryz.prog default).heap.size
noncomputable def laidWorld (os : Os) : World :=
  let N := (World.settled Tryz.prog os).heap.size
  let w0 := World.holding Tryz.prog os ⟨#[.cells caseCells5 318, .cells #[.string ⟨#[118, 97, 108, 117, 101, 32, 111, 117, 116, 32, 111, 102, 32, 114, 97, 110, 103, 101]⟩] 321, .cells #[.string ⟨#[105, 110, 118, 97, 108, 105, 100, 32, 115, 121, 110, 116, 97, 120]⟩] 321], #[], []⟩
  let put (h : Array Obj) (g : Nat) (cs : Array Value) : Array Obj := h.modify g fun
    | .cells _ t frozen => .cells cs t frozen
    | o => o
  let h1 := put w0.heap 8 (flatC Rows.laid_math_bits_deBruijn32tab).toArray
  let h2 := put h1 9 (flatC Rows.laid_math_bits_deBruijn64tab).toArray
  let h3 := put h2 2 (flatC Rows.laid_internal_strconv_uint64pow10).toArray
  let h4 := put h3 5 (flatC Rows.laid_unicode_utf8_acceptRanges).toArray
  let h5 := put h4 7 #[.iface 319 (.pointer (some ⟨N + 1, 0, none⟩))]
  let h6 := put h5 6 #[.iface 319 (.pointer (some ⟨N + 2, 0, none⟩))]
  let h7 := put h6 3 #[.slice (some ⟨N, 0, none⟩) caseA.size caseA.size]
  let h8 := put h7 4 (flatC Rows.laid_unicode_utf8_first).toArray
  { w0 with heap := h8 }
set_option maxRecDepth 1000000 in
theorem piece1 (os : Os) (args : Array Value) : LaidIn Tryz.prog ((laidWorld os).forCall (fun _ _ => 0) ⟨#[], args, []⟩).memory [("math/bits.deBruijn32tab", Rows.laid_math_bits_deBruijn32tab), ("math/bits.deBruijn64tab", Rows.laid_math_bits_deBruijn64tab), ("internal/strconv.uint64pow10", Rows.laid_internal_strconv_uint64pow10), ("unicode/utf8.acceptRanges", Rows.laid_unicode_utf8_acceptRanges), ("strconv.ErrRange", Rows.laid_strconv_ErrRange), ("strconv.ErrSyntax", Rows.laid_strconv_ErrSyntax)] [8, 9, 2, 5, 7, 6, N0 + 1, N0 + 2] :=
  LaidIn.of_run [8, 9, 2, 5, 7, 6, N0 + 1, N0 + 2] 8 (by kernel_rfl) (by kernel_rfl) (by kernel_rfl) (by kernel_rfl)
set_option maxRecDepth 1000000 in
theorem piece3 (os : Os) (args : Array Value) : LaidIn Tryz.prog ((laidWorld os).forCall (fun _ _ => 0) ⟨#[], args, []⟩).memory [("unicode/utf8.first", Rows.laid_unicode_utf8_first)] [4] :=
  LaidIn.of_run [4] 8 (by kernel_rfl) (by kernel_rfl) (by kernel_rfl) (by kernel_rfl)
theorem laidIn_case {P : Program} {ρ : Ren} (L : Lays.n274 P ρ) (t206 : P.underlying (ρ.t 206) = some (.array 3 (ρ.t 21))) (X : CaseExtra P ρ) {w : World} (R : Nat) (t : TypeId) (hgR : ρ.g 13 ≠ R)
    (hvar : w.heap[ρ.g 13]? = some (.cells #[.slice (some ⟨R, 0, none⟩) caseA.size caseA.size] (ρ.t 162) (0, 0)))
    (hblk : w.heap[R]? = some (.cells caseCells5 t (0, 0))) : LaidIn P w [("unicode.CaseRanges", caseData)] [ρ.g 13, R] := by
  have hT := caseTab_of_block hblk
  have hread := case_slice_reads L t206 X hT caseA_wf (by rw [caseA_size]; unfold maxLen; omega) 0
  rw [case_rows_data] at hread
  have hv : w.var? P "unicode.CaseRanges" = some #[.slice (some ⟨R, 0, none⟩) caseA.size caseA.size] := by simp [World.var?, X.n13, hvar]
  refine LaidIn.one [ρ.g 13, R] X.n13 X.y13 hv hread ?_ ?_ ?_
  · refine List.nodup_append.2 ⟨row_nodup _ _, row_nodup _ _, ?_⟩
    intro a ha b hb e
    obtain ⟨i, _, rfl⟩ := MemPlace.mem_row.1 ha
    obtain ⟨j, _, rfl⟩ := MemPlace.mem_row.1 hb
    simp at e
    exact hgR e.1
  · intro b off hp
    rcases List.mem_append.1 hp with hp | hp
    · obtain ⟨i, hi, e⟩ := MemPlace.mem_row.1 hp
      cases e
      refine ⟨⟨_, _, hvar⟩, fun u v hc => ?_⟩
      obtain rfl : i = 0 := by
        have : (#[Value.slice (some ⟨R, 0, none⟩) caseA.size caseA.size]).size = 1 := rfl
        omega
      rw [Lib.cell_of_heap hvar] at hc
      simp at hc
    · obtain ⟨i, hi, e⟩ := MemPlace.mem_row.1 hp
      cases e
      refine ⟨⟨_, _, hblk⟩, fun u v hc => ?_⟩
      obtain ⟨c0, c1, c2, c3, c4⟩ := hT (i / 5) (by omega)
      have hi5 : 0 + i = 0 + i / 5 * 5 + i % 5 := by omega
      simp only at hc
      rw [hi5] at hc
      have hm : i % 5 < 5 := Nat.mod_lt _ (by omega)
      match hk : i % 5, hm with
      | 0, _ => rw [hk, Nat.add_zero, c0] at hc; cases hc
      | 1, _ => rw [hk, c1] at hc; cases hc
      | 2, _ => rw [hk, c2] at hc; cases hc
      | 3, _ => rw [hk, c3] at hc; cases hc
      | 4, _ => rw [hk, c4] at hc; cases hc
  · intro x hx
    rcases List.mem_append.1 hx with hp | hp
    · obtain ⟨i, hi, rfl⟩ := MemPlace.mem_row.1 hp
      exact .head _
    · obtain ⟨i, hi, rfl⟩ := MemPlace.mem_row.1 hp
      exact .tail _ (.head _)
def ren : Ren := { Tryz.lays274_ren with g := fun _ => 3 }
theorem L274 : Lays.n274 Tryz.prog ren := { Tryz.lays274 with }
set_option maxRecDepth 1000000 in
theorem piece2 (os : Os) (args : Array Value) : LaidIn Tryz.prog ((laidWorld os).forCall (fun _ _ => 0) ⟨#[], args, []⟩).memory [("unicode.CaseRanges", Rows.laid_unicode_CaseRanges)] [3, N0] := by
  have := laidIn_case (P := Tryz.prog) (ρ := ren) L274 (by kernel_rfl) ⟨by kernel_rfl, by kernel_rfl, by kernel_rfl, by kernel_rfl, by kernel_rfl, by kernel_rfl⟩ (w := ((laidWorld os).forCall (fun _ _ => 0) ⟨#[], args, []⟩).memory) N0 318 (of_decide_eq_true (by kernel_rfl)) (by kernel_rfl) (by kernel_rfl)
  rw [← Pinned.caseRanges_eq] at this
  exact this

/-- What the rows list. -/
def L8 : List (String × DataW Unit) := [("math/bits.deBruijn32tab", Rows.laid_math_bits_deBruijn32tab), ("math/bits.deBruijn64tab", Rows.laid_math_bits_deBruijn64tab), ("internal/strconv.uint64pow10", Rows.laid_internal_strconv_uint64pow10), ("unicode/utf8.acceptRanges", Rows.laid_unicode_utf8_acceptRanges), ("strconv.ErrRange", Rows.laid_strconv_ErrRange), ("strconv.ErrSyntax", Rows.laid_strconv_ErrSyntax), ("unicode.CaseRanges", Rows.laid_unicode_CaseRanges), ("unicode/utf8.first", Rows.laid_unicode_utf8_first)]
theorem laid_met (os : Os) (args : Array Value) : laidMet Tryz.prog L8 ((laidWorld os).forCall (fun _ _ => 0) ⟨#[], args, []⟩).memory :=
  (((piece1 os args).append (piece2 os args) (by kernel_rfl)).append (piece3 os args) (by kernel_rfl)).met
/-- What is listed behind the first. -/
theorem met_tail {P : Program} {x : String × DataW Unit} {l : List (String × DataW Unit)} {w : World} (h : laidMet P (x :: l) w) : laidMet P l w := by
  obtain ⟨ps, hv, hn, hc⟩ := h
  obtain ⟨g, t, cs, fuel, p, q, _, _, _, _, hr, rfl⟩ := hv
  exact ⟨q, hr, (List.nodup_append.1 hn).2.1, fun b off hm => hc b off (List.mem_append_right _ hm)⟩
theorem tab_met {W : World} (h : laidMet Tryz.prog L8 W) : TabIs Tryz.prog W "internal/strconv.uint64pow10" .u64 pow10Tab := by
  have h2 := met_tail (met_tail h)
  refine tabIs_of_head (g := 2) (t := 271) (e := 103) (n := 20) (rest := [("unicode/utf8.acceptRanges", Rows.laid_unicode_utf8_acceptRanges), ("strconv.ErrRange", Rows.laid_strconv_ErrRange), ("strconv.ErrSyntax", Rows.laid_strconv_ErrSyntax), ("unicode.CaseRanges", Rows.laid_unicode_CaseRanges), ("unicode/utf8.first", Rows.laid_unicode_utf8_first)]) (by kernel_rfl) (by kernel_rfl) (by kernel_rfl) (by kernel_rfl) (by kernel_rfl) (by kernel_rfl) ?_
  exact h2
/-- A variable's cells, where it is laid. -/
theorem at_var {W : World} {name : String} {g : Nat} {cs : List Value} (hg : Tryz.prog.globalNamed name = some g) (h : W.var? Tryz.prog name = some cs.toArray) (hne : cs ≠ []) : g < W.heap.size ∧ Go.RX.At W ⟨g, 0, none⟩ cs := by
  have hat : Go.RX.At W ⟨g, 0, none⟩ cs := by
    intro j u hu
    have := World.var?_cell hg h j
    have e : (⟨g, 0, none⟩ : Addr).add j = ⟨g, j, none⟩ := by unfold Addr.add; split <;> simp_all
    rw [e, this]
    simpa using hu
  refine ⟨?_, hat⟩
  cases cs with
  | nil => exact absurd rfl hne
  | cons c cs =>
    have := Go.RX.cell_lt (hat 0 c rfl)
    exact this
theorem glob_met {W : World} (h : laidMet Tryz.prog L8 W) : Go.RX.Glob W (fun g => g < W.heap.size) := by
  intro p hp
  have hp' : p ∈ [(2, pow10Tab.map (Value.int .u64))] := by
    have e : Go.RX.gcells = [(2, pow10Tab.map (Value.int .u64))] := by
      unfold Go.RX.gcells Go.RX.globI Go.RX.globV
      rfl
    rw [← e]
    exact hp
  rw [List.mem_singleton] at hp'
  subst hp'
  refine at_var (by kernel_rfl) (tab_met h) ?_
  simp [pow10Tab]
end Go.Proofs.YtkiihodbgdnijaaGreatDoor.Laid
