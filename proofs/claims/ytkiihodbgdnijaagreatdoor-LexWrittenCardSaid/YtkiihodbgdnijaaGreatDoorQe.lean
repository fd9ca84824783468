/- Contracts of functions that call themselves. -/
import Derived.Test.YtkiihodbgdnijaaGreatDoorQd
set_option linter.unusedVariables false
set_option linter.unusedSimpArgs false
namespace Go.RX

/-- A contract that promises nothing. -/
theorem vac_ok {P : Program} {g : FuncId} {ps es : List ETy} {F : dens ps → Option (dens es)} (there : ∃ fn, P.funcs[g]? = some fn ∧ (fn.name == "runtime.NumGoroutine") = false ∧ fn.body.isNone = false) (h : ∀ x t, F x ≠ some t) : CtrOk P g (mkF ps es F) where
  there := there
  calls := by
    intro xs t ht
    exact absurd ht (h _ _)
  wcalls := by
    intro te k h
    simp [mkF, mkC] at h
  gcalls := by
    intro ms rs h
    simp [mkF, mkC] at h
/-- A function that calls itself: its contracts by depth, together. -/
theorem union_ok {P : Program} {g : FuncId} {ps es : List ETy} {F : Nat → dens ps → Option (dens es)} {G : dens ps → Option (dens es)} (h : ∀ k, CtrOk P g (mkF ps es (F k))) (hG : ∀ x t, G x = some t → ∃ k, F k x = some t) : CtrOk P g (mkF ps es G) where
  there := (h 0).there
  calls := by
    intro xs t ht hl hw W ok vs hlt hGl hv
    obtain ⟨k, hk⟩ := hG _ _ ht
    refine ((h k).calls xs t hk hl hw W ok vs hlt hGl hv).mono ?_
    rintro e W' ⟨u, okR, ρ', he, hp⟩
    exact ⟨u, okR, ρ', he, ⟨hp.os, hp.tape, hp.output, hp.size, hp.keep, hp.okb, hp.heap, hp.fresh, hp.pin, hp.res⟩⟩
  wcalls := by
    intro te k h
    simp [mkF, mkC] at h
  gcalls := by
    intro ms rs h
    simp [mkF, mkC] at h
end Go.RX
