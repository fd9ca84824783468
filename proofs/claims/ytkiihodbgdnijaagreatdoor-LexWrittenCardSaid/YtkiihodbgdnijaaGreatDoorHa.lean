/- lex.longest: the reader's states, walked. -/
import Derived.Test.YtkiihodbgdnijaaGreatDoorChecked
import Derived.WalkKit
import Derived.IntWalk
import Derived.Below
set_option linter.unusedVariables false
set_option linter.unusedSimpArgs false
namespace Go.RX.S
open Go Go.RowKit Go.Proofs

theorem st1 {g j : Nat} {st o : Value} {w : World} (hv : st.oneCell' = true) (h0 : w.cell? ⟨g, j, none⟩ = some o) (f0 : w.frozen? ⟨g, j, none⟩ = false) : (store ⟨g, j, none⟩ st).run Tryz.prog w = .ok () (w.setCell ⟨g, j, none⟩ st) := by
  rw [run_store _ _ _ _ _ hv, h0]
  simp [f0]
theorem st2 {g j : Nat} {st o : Value} {w : World} (hv : st.oneCell' = true) (h0 : w.cell? ⟨g, j, none⟩ = some o) (f0 : w.frozen? ⟨g, j, none⟩ = false) : (storeCells ⟨g, j, none⟩ [st]).run Tryz.prog w = .ok () (w.setCell ⟨g, j, none⟩ st) := by
  simp only [storeCells]
  have := st1 hv h0 f0
  simp [this, Addr.add]
/-- A state: the function that is told the next byte. -/
def clo (g : Nat) : Option Nat → Value
  | none => .nilFunc
  | some f => .func (.func f) #[.pointer (some ⟨g, 0, none⟩)] #[]
structure Rd (w : World) (g : Nat) : Prop where
  c0 : ∃ o, w.cell? ⟨g, 0, none⟩ = some o
  c1 : ∃ o, w.cell? ⟨g, 1, none⟩ = some o
  f0 : w.frozen? ⟨g, 0, none⟩ = false
  f1 : w.frozen? ⟨g, 1, none⟩ = false
def set2 (w : World) (g : Nat) (x : Option Nat × Int) : World := (w.setCell ⟨g, 0, none⟩ (clo g x.1)).setCell ⟨g, 1, none⟩ (.int .i64 x.2)
theorem to_any (g : Nat) (s : Option Nat) (k : Int) (w : World) (h : Rd w g) :
    Calls Tryz.prog 174 #[.pointer (some ⟨g, 0, none⟩), clo g s, .int .i64 k] w fun e w' => e = .returned (.tuple #[]) ∧ w' = set2 w g (s, k) := by
  obtain ⟨⟨o0, h0⟩, ⟨o1, h1⟩, f0, f1⟩ := h
  have S := st2 (g := g) (j := 0) (st := clo g s) (by cases s <;> rfl) h0 f0
  unfold set2
  dsimp only
  generalize clo g s = st at *
  go_enter Tryz.func174, Tryz.ntmps174
  go_wp2
  rw [S]
  go_wp2
  exact bodyPost_end (v := .tuple #[]) (by simp [results, Tryz.results174, go_sem]) rfl ⟨rfl, rfl⟩
theorem to_nil (g : Nat) (k : Int) (w : World) (h : Rd w g) :
    Calls Tryz.prog 174 #[.pointer (some ⟨g, 0, none⟩), .nilFunc, .int .i64 k] w fun e w' => e = .returned (.tuple #[]) ∧ w' = set2 w g (none, k) := to_any g none k w h
theorem to_fn (g f : Nat) (k : Int) (w : World) (h : Rd w g) :
    Calls Tryz.prog 174 #[.pointer (some ⟨g, 0, none⟩), .func (.func f) #[.pointer (some ⟨g, 0, none⟩)] #[], .int .i64 k] w fun e w' => e = .returned (.tuple #[]) ∧ w' = set2 w g (some f, k) := to_any g (some f) k w h
theorem stop_any (g : Nat) (w : World) (h : Rd w g) :
    Calls Tryz.prog 210 #[.pointer (some ⟨g, 0, none⟩)] w fun e w' => e = .returned (.tuple #[]) ∧ w' = set2 w g (none, 0) := by
  go_enter Tryz.func210, Tryz.ntmps210
  go_wp2_with (go_at_call 174; refine (to_nil _ _ _ h).mono ?_; rintro e w' ⟨rfl, rfl⟩)
  exact bodyPost_end (v := .tuple #[]) (by simp [results, Tryz.results210, go_sem]) rfl ⟨rfl, rfl⟩
def dg (c : Int) : Bool := decide (48 ≤ c ∧ c ≤ 57)
theorem digit_any (c : Int) (w : World) : Calls Tryz.prog 131 #[.int .u8 c] w fun e w' => e = .returned (.bool (dg c)) ∧ w' = w := by
  go_enter Tryz.func131, Tryz.ntmps131
  go_wp2
  all_goals
    go_ret
    refine ⟨?_, rfl⟩
    simp [dg, *] <;> omega
/-- A letter, small. -/
def lo (c : Int) : Int := bits BinOp.or IntKind.u8 c 32
def hx (c : Int) : Bool := dg c || (decide (97 ≤ lo c) && decide (lo c ≤ 102))
theorem hexDigit_any (c : Int) (w : World) : Calls Tryz.prog 258 #[.int .u8 c] w fun e w' => e = .returned (.bool (hx c)) ∧ w' = w := by
  go_enter Tryz.func258, Tryz.ntmps258
  go_wp2_with (go_at_call 131; refine (digit_any _ _).mono ?_; rintro e w' ⟨rfl, rfl⟩)
  all_goals
    go_ret
    refine ⟨?_, rfl⟩
    first | (simp [hx, lo, *]; done) | (simp [hx, lo, *]; exact decide_eq_decide.2 Iff.rfl) | (simp [hx, lo, *]; intro h; exact absurd (of_decide_eq_true h) (by omega))

def nx_signed (c : Int) : Option Nat × Int := if c = 48 then (some 207, 1) else if dg c = true then (some 208, 1) else if c = 46 then (some 209, 0) else (none, 0)
theorem m_signed (g : Nat) (c : Int) (w : World) (h : Rd w g) :
    Calls Tryz.prog 175 #[.pointer (some ⟨g, 0, none⟩), .int .u8 c] w fun e w' => e = .returned (.tuple #[]) ∧ w' = set2 w g (nx_signed c) := by
  go_enter Tryz.func175, Tryz.ntmps175
  go_wp2_with (first | (go_at_call 174; refine (to_fn _ _ _ _ h).mono ?_; rintro e w' ⟨rfl, rfl⟩) | (go_at_call 131; refine (digit_any _ _).mono ?_; rintro e w' ⟨rfl, rfl⟩) | (go_at_call 258; refine (hexDigit_any _ _).mono ?_; rintro e w' ⟨rfl, rfl⟩) | (go_at_call 210; refine (stop_any _ _ h).mono ?_; rintro e w' ⟨rfl, rfl⟩))
  all_goals
    first | refine bodyPost_end (v := .tuple #[]) (by simp [results, Tryz.results175, go_sem]) rfl ⟨rfl, ?_⟩ | refine bodyPost_ret (v := .tuple #[]) (by simp [results, Tryz.results175, go_sem]) rfl ⟨rfl, ?_⟩
    refine congrArg (set2 _ g) ?_
    unfold nx_signed
    (repeat' split) <;> first | rfl | (exfalso; simp_all; done) | (exfalso; simp_all; omega)
def nx_begin (c : Int) : Option Nat × Int := if c = 43 ∨ c = 45 then (some 175, 0) else nx_signed c
theorem m_begin (g : Nat) (c : Int) (w : World) (h : Rd w g) :
    Calls Tryz.prog 133 #[.pointer (some ⟨g, 0, none⟩), .int .u8 c] w fun e w' => e = .returned (.tuple #[]) ∧ w' = set2 w g (nx_begin c) := by
  go_enter Tryz.func133, Tryz.ntmps133
  go_wp2_with (first | (go_at_call 174; refine (to_fn _ _ _ _ h).mono ?_; rintro e w' ⟨rfl, rfl⟩) | (go_at_call 131; refine (digit_any _ _).mono ?_; rintro e w' ⟨rfl, rfl⟩) | (go_at_call 258; refine (hexDigit_any _ _).mono ?_; rintro e w' ⟨rfl, rfl⟩) | (go_at_call 210; refine (stop_any _ _ h).mono ?_; rintro e w' ⟨rfl, rfl⟩) | (go_at_call 175; refine (m_signed _ _ _ h).mono ?_; rintro e w' ⟨rfl, rfl⟩))
  all_goals
    first | refine bodyPost_end (v := .tuple #[]) (by simp [results, Tryz.results133, go_sem]) rfl ⟨rfl, ?_⟩ | refine bodyPost_ret (v := .tuple #[]) (by simp [results, Tryz.results133, go_sem]) rfl ⟨rfl, ?_⟩
    refine congrArg (set2 _ g) ?_
    unfold nx_begin
    (repeat' split) <;> first | rfl | (exfalso; simp_all; done) | (exfalso; simp_all; omega)
def nx_whole (c : Int) : Option Nat × Int := if dg c = true then (some 208, 1) else if c = 46 then (some 233, 1) else if c = 101 ∨ c = 69 then (some 234, 0) else if c = 47 then (some 235, 0) else (none, 0)
theorem m_whole (g : Nat) (c : Int) (w : World) (h : Rd w g) :
    Calls Tryz.prog 208 #[.pointer (some ⟨g, 0, none⟩), .int .u8 c] w fun e w' => e = .returned (.tuple #[]) ∧ w' = set2 w g (nx_whole c) := by
  go_enter Tryz.func208, Tryz.ntmps208
  go_wp2_with (first | (go_at_call 174; refine (to_fn _ _ _ _ h).mono ?_; rintro e w' ⟨rfl, rfl⟩) | (go_at_call 131; refine (digit_any _ _).mono ?_; rintro e w' ⟨rfl, rfl⟩) | (go_at_call 258; refine (hexDigit_any _ _).mono ?_; rintro e w' ⟨rfl, rfl⟩) | (go_at_call 210; refine (stop_any _ _ h).mono ?_; rintro e w' ⟨rfl, rfl⟩))
  all_goals
    first | refine bodyPost_end (v := .tuple #[]) (by simp [results, Tryz.results208, go_sem]) rfl ⟨rfl, ?_⟩ | refine bodyPost_ret (v := .tuple #[]) (by simp [results, Tryz.results208, go_sem]) rfl ⟨rfl, ?_⟩
    refine congrArg (set2 _ g) ?_
    unfold nx_whole
    (repeat' split) <;> first | rfl | (exfalso; simp_all; done) | (exfalso; simp_all; omega)
def nx_zero (c : Int) : Option Nat × Int := if c = 120 ∨ c = 88 then (some 232, 0) else nx_whole c
theorem m_zero (g : Nat) (c : Int) (w : World) (h : Rd w g) :
    Calls Tryz.prog 207 #[.pointer (some ⟨g, 0, none⟩), .int .u8 c] w fun e w' => e = .returned (.tuple #[]) ∧ w' = set2 w g (nx_zero c) := by
  go_enter Tryz.func207, Tryz.ntmps207
  go_wp2_with (first | (go_at_call 174; refine (to_fn _ _ _ _ h).mono ?_; rintro e w' ⟨rfl, rfl⟩) | (go_at_call 131; refine (digit_any _ _).mono ?_; rintro e w' ⟨rfl, rfl⟩) | (go_at_call 258; refine (hexDigit_any _ _).mono ?_; rintro e w' ⟨rfl, rfl⟩) | (go_at_call 210; refine (stop_any _ _ h).mono ?_; rintro e w' ⟨rfl, rfl⟩) | (go_at_call 208; refine (m_whole _ _ _ h).mono ?_; rintro e w' ⟨rfl, rfl⟩))
  all_goals
    first | refine bodyPost_end (v := .tuple #[]) (by simp [results, Tryz.results207, go_sem]) rfl ⟨rfl, ?_⟩ | refine bodyPost_ret (v := .tuple #[]) (by simp [results, Tryz.results207, go_sem]) rfl ⟨rfl, ?_⟩
    refine congrArg (set2 _ g) ?_
    unfold nx_zero
    (repeat' split) <;> first | rfl | (exfalso; simp_all; done) | (exfalso; simp_all; omega)
def nx_bare (c : Int) : Option Nat × Int := if dg c = true then (some 233, 1) else (none, 0)
theorem m_bare (g : Nat) (c : Int) (w : World) (h : Rd w g) :
    Calls Tryz.prog 209 #[.pointer (some ⟨g, 0, none⟩), .int .u8 c] w fun e w' => e = .returned (.tuple #[]) ∧ w' = set2 w g (nx_bare c) := by
  go_enter Tryz.func209, Tryz.ntmps209
  go_wp2_with (first | (go_at_call 174; refine (to_fn _ _ _ _ h).mono ?_; rintro e w' ⟨rfl, rfl⟩) | (go_at_call 131; refine (digit_any _ _).mono ?_; rintro e w' ⟨rfl, rfl⟩) | (go_at_call 258; refine (hexDigit_any _ _).mono ?_; rintro e w' ⟨rfl, rfl⟩) | (go_at_call 210; refine (stop_any _ _ h).mono ?_; rintro e w' ⟨rfl, rfl⟩))
  all_goals
    first | refine bodyPost_end (v := .tuple #[]) (by simp [results, Tryz.results209, go_sem]) rfl ⟨rfl, ?_⟩ | refine bodyPost_ret (v := .tuple #[]) (by simp [results, Tryz.results209, go_sem]) rfl ⟨rfl, ?_⟩
    refine congrArg (set2 _ g) ?_
    unfold nx_bare
    (repeat' split) <;> first | rfl | (exfalso; simp_all; done) | (exfalso; simp_all; omega)
def nx_fraction (c : Int) : Option Nat × Int := if dg c = true then (some 233, 1) else if c = 101 ∨ c = 69 then (some 234, 0) else (none, 0)
theorem m_fraction (g : Nat) (c : Int) (w : World) (h : Rd w g) :
    Calls Tryz.prog 233 #[.pointer (some ⟨g, 0, none⟩), .int .u8 c] w fun e w' => e = .returned (.tuple #[]) ∧ w' = set2 w g (nx_fraction c) := by
  go_enter Tryz.func233, Tryz.ntmps233
  go_wp2_with (first | (go_at_call 174; refine (to_fn _ _ _ _ h).mono ?_; rintro e w' ⟨rfl, rfl⟩) | (go_at_call 131; refine (digit_any _ _).mono ?_; rintro e w' ⟨rfl, rfl⟩) | (go_at_call 258; refine (hexDigit_any _ _).mono ?_; rintro e w' ⟨rfl, rfl⟩) | (go_at_call 210; refine (stop_any _ _ h).mono ?_; rintro e w' ⟨rfl, rfl⟩))
  all_goals
    first | refine bodyPost_end (v := .tuple #[]) (by simp [results, Tryz.results233, go_sem]) rfl ⟨rfl, ?_⟩ | refine bodyPost_ret (v := .tuple #[]) (by simp [results, Tryz.results233, go_sem]) rfl ⟨rfl, ?_⟩
    refine congrArg (set2 _ g) ?_
    unfold nx_fraction
    (repeat' split) <;> first | rfl | (exfalso; simp_all; done) | (exfalso; simp_all; omega)
def nx_expSigned (c : Int) : Option Nat × Int := if dg c = true then (some 261, 1) else (none, 0)
theorem m_expSigned (g : Nat) (c : Int) (w : World) (h : Rd w g) :
    Calls Tryz.prog 261 #[.pointer (some ⟨g, 0, none⟩), .int .u8 c] w fun e w' => e = .returned (.tuple #[]) ∧ w' = set2 w g (nx_expSigned c) := by
  go_enter Tryz.func261, Tryz.ntmps261
  go_wp2_with (first | (go_at_call 174; refine (to_fn _ _ _ _ h).mono ?_; rintro e w' ⟨rfl, rfl⟩) | (go_at_call 131; refine (digit_any _ _).mono ?_; rintro e w' ⟨rfl, rfl⟩) | (go_at_call 258; refine (hexDigit_any _ _).mono ?_; rintro e w' ⟨rfl, rfl⟩) | (go_at_call 210; refine (stop_any _ _ h).mono ?_; rintro e w' ⟨rfl, rfl⟩))
  all_goals
    first | refine bodyPost_end (v := .tuple #[]) (by simp [results, Tryz.results261, go_sem]) rfl ⟨rfl, ?_⟩ | refine bodyPost_ret (v := .tuple #[]) (by simp [results, Tryz.results261, go_sem]) rfl ⟨rfl, ?_⟩
    refine congrArg (set2 _ g) ?_
    unfold nx_expSigned
    (repeat' split) <;> first | rfl | (exfalso; simp_all; done) | (exfalso; simp_all; omega)
def nx_expBegin (c : Int) : Option Nat × Int := if c = 43 ∨ c = 45 then (some 261, 0) else nx_expSigned c
theorem m_expBegin (g : Nat) (c : Int) (w : World) (h : Rd w g) :
    Calls Tryz.prog 234 #[.pointer (some ⟨g, 0, none⟩), .int .u8 c] w fun e w' => e = .returned (.tuple #[]) ∧ w' = set2 w g (nx_expBegin c) := by
  go_enter Tryz.func234, Tryz.ntmps234
  go_wp2_with (first | (go_at_call 174; refine (to_fn _ _ _ _ h).mono ?_; rintro e w' ⟨rfl, rfl⟩) | (go_at_call 131; refine (digit_any _ _).mono ?_; rintro e w' ⟨rfl, rfl⟩) | (go_at_call 258; refine (hexDigit_any _ _).mono ?_; rintro e w' ⟨rfl, rfl⟩) | (go_at_call 210; refine (stop_any _ _ h).mono ?_; rintro e w' ⟨rfl, rfl⟩) | (go_at_call 261; refine (m_expSigned _ _ _ h).mono ?_; rintro e w' ⟨rfl, rfl⟩))
  all_goals
    first | refine bodyPost_end (v := .tuple #[]) (by simp [results, Tryz.results234, go_sem]) rfl ⟨rfl, ?_⟩ | refine bodyPost_ret (v := .tuple #[]) (by simp [results, Tryz.results234, go_sem]) rfl ⟨rfl, ?_⟩
    refine congrArg (set2 _ g) ?_
    unfold nx_expBegin
    (repeat' split) <;> first | rfl | (exfalso; simp_all; done) | (exfalso; simp_all; omega)
def nx_under (c : Int) : Option Nat × Int := if dg c = true then (some 235, 3) else (none, 0)
theorem m_under (g : Nat) (c : Int) (w : World) (h : Rd w g) :
    Calls Tryz.prog 235 #[.pointer (some ⟨g, 0, none⟩), .int .u8 c] w fun e w' => e = .returned (.tuple #[]) ∧ w' = set2 w g (nx_under c) := by
  go_enter Tryz.func235, Tryz.ntmps235
  go_wp2_with (first | (go_at_call 174; refine (to_fn _ _ _ _ h).mono ?_; rintro e w' ⟨rfl, rfl⟩) | (go_at_call 131; refine (digit_any _ _).mono ?_; rintro e w' ⟨rfl, rfl⟩) | (go_at_call 258; refine (hexDigit_any _ _).mono ?_; rintro e w' ⟨rfl, rfl⟩) | (go_at_call 210; refine (stop_any _ _ h).mono ?_; rintro e w' ⟨rfl, rfl⟩))
  all_goals
    first | refine bodyPost_end (v := .tuple #[]) (by simp [results, Tryz.results235, go_sem]) rfl ⟨rfl, ?_⟩ | refine bodyPost_ret (v := .tuple #[]) (by simp [results, Tryz.results235, go_sem]) rfl ⟨rfl, ?_⟩
    refine congrArg (set2 _ g) ?_
    unfold nx_under
    (repeat' split) <;> first | rfl | (exfalso; simp_all; done) | (exfalso; simp_all; omega)
def nx_hexBegin (c : Int) : Option Nat × Int := if hx c = true then (some 259, 0) else if c = 46 then (some 260, 0) else (none, 0)
theorem m_hexBegin (g : Nat) (c : Int) (w : World) (h : Rd w g) :
    Calls Tryz.prog 232 #[.pointer (some ⟨g, 0, none⟩), .int .u8 c] w fun e w' => e = .returned (.tuple #[]) ∧ w' = set2 w g (nx_hexBegin c) := by
  go_enter Tryz.func232, Tryz.ntmps232
  go_wp2_with (first | (go_at_call 174; refine (to_fn _ _ _ _ h).mono ?_; rintro e w' ⟨rfl, rfl⟩) | (go_at_call 131; refine (digit_any _ _).mono ?_; rintro e w' ⟨rfl, rfl⟩) | (go_at_call 258; refine (hexDigit_any _ _).mono ?_; rintro e w' ⟨rfl, rfl⟩) | (go_at_call 210; refine (stop_any _ _ h).mono ?_; rintro e w' ⟨rfl, rfl⟩))
  all_goals
    first | refine bodyPost_end (v := .tuple #[]) (by simp [results, Tryz.results232, go_sem]) rfl ⟨rfl, ?_⟩ | refine bodyPost_ret (v := .tuple #[]) (by simp [results, Tryz.results232, go_sem]) rfl ⟨rfl, ?_⟩
    refine congrArg (set2 _ g) ?_
    unfold nx_hexBegin
    (repeat' split) <;> first | rfl | (exfalso; simp_all; done) | (exfalso; simp_all; omega)
def nx_hexWhole (c : Int) : Option Nat × Int := if hx c = true then (some 259, 0) else if c = 46 then (some 272, 0) else if c = 112 ∨ c = 80 then (some 273, 0) else (none, 0)
theorem m_hexWhole (g : Nat) (c : Int) (w : World) (h : Rd w g) :
    Calls Tryz.prog 259 #[.pointer (some ⟨g, 0, none⟩), .int .u8 c] w fun e w' => e = .returned (.tuple #[]) ∧ w' = set2 w g (nx_hexWhole c) := by
  go_enter Tryz.func259, Tryz.ntmps259
  go_wp2_with (first | (go_at_call 174; refine (to_fn _ _ _ _ h).mono ?_; rintro e w' ⟨rfl, rfl⟩) | (go_at_call 131; refine (digit_any _ _).mono ?_; rintro e w' ⟨rfl, rfl⟩) | (go_at_call 258; refine (hexDigit_any _ _).mono ?_; rintro e w' ⟨rfl, rfl⟩) | (go_at_call 210; refine (stop_any _ _ h).mono ?_; rintro e w' ⟨rfl, rfl⟩))
  all_goals
    first | refine bodyPost_end (v := .tuple #[]) (by simp [results, Tryz.results259, go_sem]) rfl ⟨rfl, ?_⟩ | refine bodyPost_ret (v := .tuple #[]) (by simp [results, Tryz.results259, go_sem]) rfl ⟨rfl, ?_⟩
    refine congrArg (set2 _ g) ?_
    unfold nx_hexWhole
    (repeat' split) <;> first | rfl | (exfalso; simp_all; done) | (exfalso; simp_all; omega)
def nx_hexBare (c : Int) : Option Nat × Int := if hx c = true then (some 272, 0) else (none, 0)
theorem m_hexBare (g : Nat) (c : Int) (w : World) (h : Rd w g) :
    Calls Tryz.prog 260 #[.pointer (some ⟨g, 0, none⟩), .int .u8 c] w fun e w' => e = .returned (.tuple #[]) ∧ w' = set2 w g (nx_hexBare c) := by
  go_enter Tryz.func260, Tryz.ntmps260
  go_wp2_with (first | (go_at_call 174; refine (to_fn _ _ _ _ h).mono ?_; rintro e w' ⟨rfl, rfl⟩) | (go_at_call 131; refine (digit_any _ _).mono ?_; rintro e w' ⟨rfl, rfl⟩) | (go_at_call 258; refine (hexDigit_any _ _).mono ?_; rintro e w' ⟨rfl, rfl⟩) | (go_at_call 210; refine (stop_any _ _ h).mono ?_; rintro e w' ⟨rfl, rfl⟩))
  all_goals
    first | refine bodyPost_end (v := .tuple #[]) (by simp [results, Tryz.results260, go_sem]) rfl ⟨rfl, ?_⟩ | refine bodyPost_ret (v := .tuple #[]) (by simp [results, Tryz.results260, go_sem]) rfl ⟨rfl, ?_⟩
    refine congrArg (set2 _ g) ?_
    unfold nx_hexBare
    (repeat' split) <;> first | rfl | (exfalso; simp_all; done) | (exfalso; simp_all; omega)
def nx_hexFraction (c : Int) : Option Nat × Int := if hx c = true then (some 272, 0) else if c = 112 ∨ c = 80 then (some 273, 0) else (none, 0)
theorem m_hexFraction (g : Nat) (c : Int) (w : World) (h : Rd w g) :
    Calls Tryz.prog 272 #[.pointer (some ⟨g, 0, none⟩), .int .u8 c] w fun e w' => e = .returned (.tuple #[]) ∧ w' = set2 w g (nx_hexFraction c) := by
  go_enter Tryz.func272, Tryz.ntmps272
  go_wp2_with (first | (go_at_call 174; refine (to_fn _ _ _ _ h).mono ?_; rintro e w' ⟨rfl, rfl⟩) | (go_at_call 131; refine (digit_any _ _).mono ?_; rintro e w' ⟨rfl, rfl⟩) | (go_at_call 258; refine (hexDigit_any _ _).mono ?_; rintro e w' ⟨rfl, rfl⟩) | (go_at_call 210; refine (stop_any _ _ h).mono ?_; rintro e w' ⟨rfl, rfl⟩))
  all_goals
    first | refine bodyPost_end (v := .tuple #[]) (by simp [results, Tryz.results272, go_sem]) rfl ⟨rfl, ?_⟩ | refine bodyPost_ret (v := .tuple #[]) (by simp [results, Tryz.results272, go_sem]) rfl ⟨rfl, ?_⟩
    refine congrArg (set2 _ g) ?_
    unfold nx_hexFraction
    (repeat' split) <;> first | rfl | (exfalso; simp_all; done) | (exfalso; simp_all; omega)
def nx_powSigned (c : Int) : Option Nat × Int := if dg c = true then (some 277, 2) else (none, 0)
theorem m_powSigned (g : Nat) (c : Int) (w : World) (h : Rd w g) :
    Calls Tryz.prog 277 #[.pointer (some ⟨g, 0, none⟩), .int .u8 c] w fun e w' => e = .returned (.tuple #[]) ∧ w' = set2 w g (nx_powSigned c) := by
  go_enter Tryz.func277, Tryz.ntmps277
  go_wp2_with (first | (go_at_call 174; refine (to_fn _ _ _ _ h).mono ?_; rintro e w' ⟨rfl, rfl⟩) | (go_at_call 131; refine (digit_any _ _).mono ?_; rintro e w' ⟨rfl, rfl⟩) | (go_at_call 258; refine (hexDigit_any _ _).mono ?_; rintro e w' ⟨rfl, rfl⟩) | (go_at_call 210; refine (stop_any _ _ h).mono ?_; rintro e w' ⟨rfl, rfl⟩))
  all_goals
    first | refine bodyPost_end (v := .tuple #[]) (by simp [results, Tryz.results277, go_sem]) rfl ⟨rfl, ?_⟩ | refine bodyPost_ret (v := .tuple #[]) (by simp [results, Tryz.results277, go_sem]) rfl ⟨rfl, ?_⟩
    refine congrArg (set2 _ g) ?_
    unfold nx_powSigned
    (repeat' split) <;> first | rfl | (exfalso; simp_all; done) | (exfalso; simp_all; omega)
def nx_powBegin (c : Int) : Option Nat × Int := if c = 43 ∨ c = 45 then (some 277, 0) else nx_powSigned c
theorem m_powBegin (g : Nat) (c : Int) (w : World) (h : Rd w g) :
    Calls Tryz.prog 273 #[.pointer (some ⟨g, 0, none⟩), .int .u8 c] w fun e w' => e = .returned (.tuple #[]) ∧ w' = set2 w g (nx_powBegin c) := by
  go_enter Tryz.func273, Tryz.ntmps273
  go_wp2_with (first | (go_at_call 174; refine (to_fn _ _ _ _ h).mono ?_; rintro e w' ⟨rfl, rfl⟩) | (go_at_call 131; refine (digit_any _ _).mono ?_; rintro e w' ⟨rfl, rfl⟩) | (go_at_call 258; refine (hexDigit_any _ _).mono ?_; rintro e w' ⟨rfl, rfl⟩) | (go_at_call 210; refine (stop_any _ _ h).mono ?_; rintro e w' ⟨rfl, rfl⟩) | (go_at_call 277; refine (m_powSigned _ _ _ h).mono ?_; rintro e w' ⟨rfl, rfl⟩))
  all_goals
    first | refine bodyPost_end (v := .tuple #[]) (by simp [results, Tryz.results273, go_sem]) rfl ⟨rfl, ?_⟩ | refine bodyPost_ret (v := .tuple #[]) (by simp [results, Tryz.results273, go_sem]) rfl ⟨rfl, ?_⟩
    refine congrArg (set2 _ g) ?_
    unfold nx_powBegin
    (repeat' split) <;> first | rfl | (exfalso; simp_all; done) | (exfalso; simp_all; omega)
end Go.RX.S
