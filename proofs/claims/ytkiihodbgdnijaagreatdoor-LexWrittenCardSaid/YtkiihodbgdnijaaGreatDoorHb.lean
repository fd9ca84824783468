/- lex.longest: the loop over its reader's states, walked. -/
import Derived.Test.YtkiihodbgdnijaaGreatDoorHa
import Derived.Shelf.Abstract
set_option linter.unusedVariables false
set_option linter.unusedSimpArgs false
namespace Go.RX.S
open Go Go.RowKit Go.Proofs

def isSt (f : Nat) : Bool := [133, 175, 208, 207, 209, 233, 261, 234, 235, 232, 259, 260, 272, 277, 273].contains f
/-- What a state becomes by a byte, and the kind of the numeral that ends behind it. -/
def nx (f : Nat) (c : Int) : Option Nat × Int :=
  if f = 133 then nx_begin c else
  if f = 175 then nx_signed c else
  if f = 208 then nx_whole c else
  if f = 207 then nx_zero c else
  if f = 209 then nx_bare c else
  if f = 233 then nx_fraction c else
  if f = 261 then nx_expSigned c else
  if f = 234 then nx_expBegin c else
  if f = 235 then nx_under c else
  if f = 232 then nx_hexBegin c else
  if f = 259 then nx_hexWhole c else
  if f = 260 then nx_hexBare c else
  if f = 272 then nx_hexFraction c else
  if f = 277 then nx_powSigned c else
  if f = 273 then nx_powBegin c else
  (none, 0)
theorem m_all (f g : Nat) (c : Int) (w : World) (hf : isSt f = true) (h : Rd w g) :
    Calls Tryz.prog f #[.pointer (some ⟨g, 0, none⟩), .int .u8 c] w fun e w' => e = .returned (.tuple #[]) ∧ w' = set2 w g (nx f c) := by
  simp only [isSt, List.contains_eq_mem, List.mem_cons, List.not_mem_nil, or_false, decide_eq_true_eq] at hf
  rcases hf with rfl | rfl | rfl | rfl | rfl | rfl | rfl | rfl | rfl | rfl | rfl | rfl | rfl | rfl | rfl
  · exact m_begin g c w h
  · exact m_signed g c w h
  · exact m_whole g c w h
  · exact m_zero g c w h
  · exact m_bare g c w h
  · exact m_fraction g c w h
  · exact m_expSigned g c w h
  · exact m_expBegin g c w h
  · exact m_under g c w h
  · exact m_hexBegin g c w h
  · exact m_hexWhole g c w h
  · exact m_hexBare g c w h
  · exact m_hexFraction g c w h
  · exact m_powSigned g c w h
  · exact m_powBegin g c w h
theorem nx_st {f f' : Nat} {c k : Int} (hf : isSt f = true) (h : nx f c = (some f', k)) : isSt f' = true := by
  simp only [isSt, List.contains_eq_mem, List.mem_cons, List.not_mem_nil, or_false, decide_eq_true_eq] at hf
  rcases hf with rfl | rfl | rfl | rfl | rfl | rfl | rfl | rfl | rfl | rfl | rfl | rfl | rfl | rfl | rfl
  · have h : nx_begin c = (some f', k) := h
    unfold nx_begin nx_signed at h
    (repeat' split at h) <;> first | (simp only [Prod.mk.injEq, Option.some.injEq, reduceCtorEq, false_and] at h; done) | (simp only [Prod.mk.injEq, Option.some.injEq] at h; obtain ⟨rfl, _⟩ := h; decide)
  · have h : nx_signed c = (some f', k) := h
    unfold nx_signed at h
    (repeat' split at h) <;> first | (simp only [Prod.mk.injEq, Option.some.injEq, reduceCtorEq, false_and] at h; done) | (simp only [Prod.mk.injEq, Option.some.injEq] at h; obtain ⟨rfl, _⟩ := h; decide)
  · have h : nx_whole c = (some f', k) := h
    unfold nx_whole at h
    (repeat' split at h) <;> first | (simp only [Prod.mk.injEq, Option.some.injEq, reduceCtorEq, false_and] at h; done) | (simp only [Prod.mk.injEq, Option.some.injEq] at h; obtain ⟨rfl, _⟩ := h; decide)
  · have h : nx_zero c = (some f', k) := h
    unfold nx_zero nx_whole at h
    (repeat' split at h) <;> first | (simp only [Prod.mk.injEq, Option.some.injEq, reduceCtorEq, false_and] at h; done) | (simp only [Prod.mk.injEq, Option.some.injEq] at h; obtain ⟨rfl, _⟩ := h; decide)
  · have h : nx_bare c = (some f', k) := h
    unfold nx_bare at h
    (repeat' split at h) <;> first | (simp only [Prod.mk.injEq, Option.some.injEq, reduceCtorEq, false_and] at h; done) | (simp only [Prod.mk.injEq, Option.some.injEq] at h; obtain ⟨rfl, _⟩ := h; decide)
  · have h : nx_fraction c = (some f', k) := h
    unfold nx_fraction at h
    (repeat' split at h) <;> first | (simp only [Prod.mk.injEq, Option.some.injEq, reduceCtorEq, false_and] at h; done) | (simp only [Prod.mk.injEq, Option.some.injEq] at h; obtain ⟨rfl, _⟩ := h; decide)
  · have h : nx_expSigned c = (some f', k) := h
    unfold nx_expSigned at h
    (repeat' split at h) <;> first | (simp only [Prod.mk.injEq, Option.some.injEq, reduceCtorEq, false_and] at h; done) | (simp only [Prod.mk.injEq, Option.some.injEq] at h; obtain ⟨rfl, _⟩ := h; decide)
  · have h : nx_expBegin c = (some f', k) := h
    unfold nx_expBegin nx_expSigned at h
    (repeat' split at h) <;> first | (simp only [Prod.mk.injEq, Option.some.injEq, reduceCtorEq, false_and] at h; done) | (simp only [Prod.mk.injEq, Option.some.injEq] at h; obtain ⟨rfl, _⟩ := h; decide)
  · have h : nx_under c = (some f', k) := h
    unfold nx_under at h
    (repeat' split at h) <;> first | (simp only [Prod.mk.injEq, Option.some.injEq, reduceCtorEq, false_and] at h; done) | (simp only [Prod.mk.injEq, Option.some.injEq] at h; obtain ⟨rfl, _⟩ := h; decide)
  · have h : nx_hexBegin c = (some f', k) := h
    unfold nx_hexBegin at h
    (repeat' split at h) <;> first | (simp only [Prod.mk.injEq, Option.some.injEq, reduceCtorEq, false_and] at h; done) | (simp only [Prod.mk.injEq, Option.some.injEq] at h; obtain ⟨rfl, _⟩ := h; decide)
  · have h : nx_hexWhole c = (some f', k) := h
    unfold nx_hexWhole at h
    (repeat' split at h) <;> first | (simp only [Prod.mk.injEq, Option.some.injEq, reduceCtorEq, false_and] at h; done) | (simp only [Prod.mk.injEq, Option.some.injEq] at h; obtain ⟨rfl, _⟩ := h; decide)
  · have h : nx_hexBare c = (some f', k) := h
    unfold nx_hexBare at h
    (repeat' split at h) <;> first | (simp only [Prod.mk.injEq, Option.some.injEq, reduceCtorEq, false_and] at h; done) | (simp only [Prod.mk.injEq, Option.some.injEq] at h; obtain ⟨rfl, _⟩ := h; decide)
  · have h : nx_hexFraction c = (some f', k) := h
    unfold nx_hexFraction at h
    (repeat' split at h) <;> first | (simp only [Prod.mk.injEq, Option.some.injEq, reduceCtorEq, false_and] at h; done) | (simp only [Prod.mk.injEq, Option.some.injEq] at h; obtain ⟨rfl, _⟩ := h; decide)
  · have h : nx_powSigned c = (some f', k) := h
    unfold nx_powSigned at h
    (repeat' split at h) <;> first | (simp only [Prod.mk.injEq, Option.some.injEq, reduceCtorEq, false_and] at h; done) | (simp only [Prod.mk.injEq, Option.some.injEq] at h; obtain ⟨rfl, _⟩ := h; decide)
  · have h : nx_powBegin c = (some f', k) := h
    unfold nx_powBegin nx_powSigned at h
    (repeat' split at h) <;> first | (simp only [Prod.mk.injEq, Option.some.injEq, reduceCtorEq, false_and] at h; done) | (simp only [Prod.mk.injEq, Option.some.injEq] at h; obtain ⟨rfl, _⟩ := h; decide)
theorem m_enters (f : Nat) (hf : isSt f = true) (args : Array Value) (w : World) : (callFunc f args).run Tryz.prog w = .ok (.enter f args) w := by
  simp only [isSt, List.contains_eq_mem, List.mem_cons, List.not_mem_nil, or_false, decide_eq_true_eq] at hf
  rcases hf with rfl | rfl | rfl | rfl | rfl | rfl | rfl | rfl | rfl | rfl | rfl | rfl | rfl | rfl | rfl
  · exact Go.Proofs.enters_of Tryz.func133 (by kernel_rfl) rfl args w
  · exact Go.Proofs.enters_of Tryz.func175 (by kernel_rfl) rfl args w
  · exact Go.Proofs.enters_of Tryz.func208 (by kernel_rfl) rfl args w
  · exact Go.Proofs.enters_of Tryz.func207 (by kernel_rfl) rfl args w
  · exact Go.Proofs.enters_of Tryz.func209 (by kernel_rfl) rfl args w
  · exact Go.Proofs.enters_of Tryz.func233 (by kernel_rfl) rfl args w
  · exact Go.Proofs.enters_of Tryz.func261 (by kernel_rfl) rfl args w
  · exact Go.Proofs.enters_of Tryz.func234 (by kernel_rfl) rfl args w
  · exact Go.Proofs.enters_of Tryz.func235 (by kernel_rfl) rfl args w
  · exact Go.Proofs.enters_of Tryz.func232 (by kernel_rfl) rfl args w
  · exact Go.Proofs.enters_of Tryz.func259 (by kernel_rfl) rfl args w
  · exact Go.Proofs.enters_of Tryz.func260 (by kernel_rfl) rfl args w
  · exact Go.Proofs.enters_of Tryz.func272 (by kernel_rfl) rfl args w
  · exact Go.Proofs.enters_of Tryz.func277 (by kernel_rfl) rfl args w
  · exact Go.Proofs.enters_of Tryz.func273 (by kernel_rfl) rfl args w
/-- The numeral that ends farthest: its kind, and its end. -/
def lgo : List Int → Nat → Int → Int × Int → Int × Int
  | [], _, _, a => a
  | c :: cs, f, i, a => match nx f c with
    | (none, _) => a
    | (some f', k) => lgo cs f' (i + 1) (if k ≠ 0 then (k, i + 1) else a)
end Go.RX.S
