/-
  No cell of these rows narrows 'for every input' (looked for: loops, veiled, ifaces, maps, wideKeys, modest, calm, conditions, laid).
  DERIVED. THE GIVEN ROWS OF THIS SEAT. 24 by the template 'for every input the law returns true; each argument reads behind the call as it read before'; 0 by the template 'total and deterministic' (their statements: YtandibmpaamfbaaTotals.lean).
  GIVEN WITH THE SEED: the statements are not yours to turn. If you find one false, say at which input.
  Laid BY PROGRAM, IN A SANDBOX (cutbox-rows.mjs): the forced cells as the released guide's own fill.sh prints them over the translation c2a1b72710206434… (all of the seat's roots in one cut). By AI agents, Wed Nov 11 2026. No macro, syntax, notation, axiom, sorry.
-/
import Derived.Test.YtandibmpaamfbaaChecked
import GoSem.Claim
import GoSem.ClaimJoined
import GoSem.ClaimMapViews
import Derived.JoinedTies
import Derived.KernelRfl
namespace Go.Proofs.Ytandibmpaamfbaa
/- THE CELL 'sum', in the pinned program and in every row, IS THE sha256 OF THE DUMP (.gsa) THAT YtandibmpaamfbaaProg.lean LOADS. Nothing in Lean hashes anything: it is a label: what it is worth is what the hold of that sum in a sandbox is worth. -/
noncomputable def Try.pinned : Pinned := { name := "ytandibmpaamfbaa", sum := "c2a1b727102064343b3e80fa63fcbd5d0b0e8c2a455dd07309ce794819b30e5d", checked := Try.checked }
namespace Rows
def none {H : Type} : Left H := { results := [], args := [] }

/-- 'plumblaw02.NatBack': WHATEVER THE INPUT: true; the input reads as it did. -/
def natBackSpec : ChangeSpec := { name := "natBack", fn := fun _ => fun
  | [d1, d2, d3] => { results := [.lit (.bool true)], args := [d1, d2, d3] }
  | _ => none }
def natBackRow : OpenClaim := { program := "ytandibmpaamfbaa", sum := "c2a1b727102064343b3e80fa63fcbd5d0b0e8c2a455dd07309ce794819b30e5d", func := "plumb/plumblaw02.NatBack", spec := "natBack", apart := false }
def NatBackSaid : Prop := natBackRow.holds Try.pinned (OpenSpec.ofChange natBackSpec)

/-- ITS FALSE NEIGHBOUR: 'it returns false'. Refute it at one input. -/
def natBackWrong : ChangeSpec := { name := "natBack", fn := fun _ => fun
  | [d1, d2, d3] => { results := [.lit (.bool false)], args := [d1, d2, d3] }
  | _ => none }
def NatBackWrongFalsely : Prop := natBackRow.holds Try.pinned (OpenSpec.ofChange natBackWrong)

/-- 'plumblaw02.NatRing': WHATEVER THE INPUT: true; the input reads as it did. -/
def natRingSpec : ChangeSpec := { name := "natRing", fn := fun _ => fun
  | [d1, d2, d3] => { results := [.lit (.bool true)], args := [d1, d2, d3] }
  | _ => none }
def natRingRow : OpenClaim := { program := "ytandibmpaamfbaa", sum := "c2a1b727102064343b3e80fa63fcbd5d0b0e8c2a455dd07309ce794819b30e5d", func := "plumb/plumblaw02.NatRing", spec := "natRing", apart := false }
def NatRingSaid : Prop := natRingRow.holds Try.pinned (OpenSpec.ofChange natRingSpec)

/-- ITS FALSE NEIGHBOUR: 'it returns false'. Refute it at one input. -/
def natRingWrong : ChangeSpec := { name := "natRing", fn := fun _ => fun
  | [d1, d2, d3] => { results := [.lit (.bool false)], args := [d1, d2, d3] }
  | _ => none }
def NatRingWrongFalsely : Prop := natRingRow.holds Try.pinned (OpenSpec.ofChange natRingWrong)

/-- 'plumblaw02.NatBits': WHATEVER THE INPUT: true; the input reads as it did. -/
def natBitsSpec : ChangeSpec := { name := "natBits", fn := fun _ => fun
  | [d] => { results := [.lit (.bool true)], args := [d] }
  | _ => none }
def natBitsRow : OpenClaim := { program := "ytandibmpaamfbaa", sum := "c2a1b727102064343b3e80fa63fcbd5d0b0e8c2a455dd07309ce794819b30e5d", func := "plumb/plumblaw02.NatBits", spec := "natBits", apart := false }
def NatBitsSaid : Prop := natBitsRow.holds Try.pinned (OpenSpec.ofChange natBitsSpec)

/-- ITS FALSE NEIGHBOUR: 'it returns false'. Refute it at one input. -/
def natBitsWrong : ChangeSpec := { name := "natBits", fn := fun _ => fun
  | [d] => { results := [.lit (.bool false)], args := [d] }
  | _ => none }
def NatBitsWrongFalsely : Prop := natBitsRow.holds Try.pinned (OpenSpec.ofChange natBitsWrong)

/-- 'plumblaw03.QuotPows': WHATEVER THE INPUT: true; the input reads as it did. -/
def quotPowsSpec : ChangeSpec := { name := "quotPows", fn := fun _ => fun
  | [d1, d2] => { results := [.lit (.bool true)], args := [d1, d2] }
  | _ => none }
def quotPowsRow : OpenClaim := { program := "ytandibmpaamfbaa", sum := "c2a1b727102064343b3e80fa63fcbd5d0b0e8c2a455dd07309ce794819b30e5d", func := "plumb/plumblaw03.QuotPows", spec := "quotPows", apart := false }
def QuotPowsSaid : Prop := quotPowsRow.holds Try.pinned (OpenSpec.ofChange quotPowsSpec)

/-- ITS FALSE NEIGHBOUR: 'it returns false'. Refute it at one input. -/
def quotPowsWrong : ChangeSpec := { name := "quotPows", fn := fun _ => fun
  | [d1, d2] => { results := [.lit (.bool false)], args := [d1, d2] }
  | _ => none }
def QuotPowsWrongFalsely : Prop := quotPowsRow.holds Try.pinned (OpenSpec.ofChange quotPowsWrong)

/-- 'plumblaw02.NatShifts': WHATEVER THE INPUT: true; the input reads as it did. -/
def natShiftsSpec : ChangeSpec := { name := "natShifts", fn := fun _ => fun
  | [d1, d2] => { results := [.lit (.bool true)], args := [d1, d2] }
  | _ => none }
def natShiftsRow : OpenClaim := { program := "ytandibmpaamfbaa", sum := "c2a1b727102064343b3e80fa63fcbd5d0b0e8c2a455dd07309ce794819b30e5d", func := "plumb/plumblaw02.NatShifts", spec := "natShifts", apart := false }
def NatShiftsSaid : Prop := natShiftsRow.holds Try.pinned (OpenSpec.ofChange natShiftsSpec)

/-- ITS FALSE NEIGHBOUR: 'it returns false'. Refute it at one input. -/
def natShiftsWrong : ChangeSpec := { name := "natShifts", fn := fun _ => fun
  | [d1, d2] => { results := [.lit (.bool false)], args := [d1, d2] }
  | _ => none }
def NatShiftsWrongFalsely : Prop := natShiftsRow.holds Try.pinned (OpenSpec.ofChange natShiftsWrong)

/-- 'plumblaw02.NatOrder': WHATEVER THE INPUT: true; the input reads as it did. -/
def natOrderSpec : ChangeSpec := { name := "natOrder", fn := fun _ => fun
  | [d1, d2, d3] => { results := [.lit (.bool true)], args := [d1, d2, d3] }
  | _ => none }
def natOrderRow : OpenClaim := { program := "ytandibmpaamfbaa", sum := "c2a1b727102064343b3e80fa63fcbd5d0b0e8c2a455dd07309ce794819b30e5d", func := "plumb/plumblaw02.NatOrder", spec := "natOrder", apart := false }
def NatOrderSaid : Prop := natOrderRow.holds Try.pinned (OpenSpec.ofChange natOrderSpec)

/-- ITS FALSE NEIGHBOUR: 'it returns false'. Refute it at one input. -/
def natOrderWrong : ChangeSpec := { name := "natOrder", fn := fun _ => fun
  | [d1, d2, d3] => { results := [.lit (.bool false)], args := [d1, d2, d3] }
  | _ => none }
def NatOrderWrongFalsely : Prop := natOrderRow.holds Try.pinned (OpenSpec.ofChange natOrderWrong)

/-- 'plumblaw02.NatAdds': WHATEVER THE INPUT: true; the input reads as it did. -/
def natAddsSpec : ChangeSpec := { name := "natAdds", fn := fun _ => fun
  | [d1, d2, d3] => { results := [.lit (.bool true)], args := [d1, d2, d3] }
  | _ => none }
def natAddsRow : OpenClaim := { program := "ytandibmpaamfbaa", sum := "c2a1b727102064343b3e80fa63fcbd5d0b0e8c2a455dd07309ce794819b30e5d", func := "plumb/plumblaw02.NatAdds", spec := "natAdds", apart := false }
def NatAddsSaid : Prop := natAddsRow.holds Try.pinned (OpenSpec.ofChange natAddsSpec)

/-- ITS FALSE NEIGHBOUR: 'it returns false'. Refute it at one input. -/
def natAddsWrong : ChangeSpec := { name := "natAdds", fn := fun _ => fun
  | [d1, d2, d3] => { results := [.lit (.bool false)], args := [d1, d2, d3] }
  | _ => none }
def NatAddsWrongFalsely : Prop := natAddsRow.holds Try.pinned (OpenSpec.ofChange natAddsWrong)

/-- 'plumblaw02.NatSteps': WHATEVER THE INPUT: true; the input reads as it did. -/
def natStepsSpec : ChangeSpec := { name := "natSteps", fn := fun _ => fun
  | [d1, d2, d3] => { results := [.lit (.bool true)], args := [d1, d2, d3] }
  | _ => none }
def natStepsRow : OpenClaim := { program := "ytandibmpaamfbaa", sum := "c2a1b727102064343b3e80fa63fcbd5d0b0e8c2a455dd07309ce794819b30e5d", func := "plumb/plumblaw02.NatSteps", spec := "natSteps", apart := false }
def NatStepsSaid : Prop := natStepsRow.holds Try.pinned (OpenSpec.ofChange natStepsSpec)

/-- ITS FALSE NEIGHBOUR: 'it returns false'. Refute it at one input. -/
def natStepsWrong : ChangeSpec := { name := "natSteps", fn := fun _ => fun
  | [d1, d2, d3] => { results := [.lit (.bool false)], args := [d1, d2, d3] }
  | _ => none }
def NatStepsWrongFalsely : Prop := natStepsRow.holds Try.pinned (OpenSpec.ofChange natStepsWrong)

/-- 'plumblaw02.NatHuge': WHATEVER THE INPUT: true; the input reads as it did. -/
def natHugeSpec : ChangeSpec := { name := "natHuge", fn := fun _ => fun
  | [d1, d2] => { results := [.lit (.bool true)], args := [d1, d2] }
  | _ => none }
def natHugeRow : OpenClaim := { program := "ytandibmpaamfbaa", sum := "c2a1b727102064343b3e80fa63fcbd5d0b0e8c2a455dd07309ce794819b30e5d", func := "plumb/plumblaw02.NatHuge", spec := "natHuge", apart := false }
def NatHugeSaid : Prop := natHugeRow.holds Try.pinned (OpenSpec.ofChange natHugeSpec)

/-- ITS FALSE NEIGHBOUR: 'it returns false'. Refute it at one input. -/
def natHugeWrong : ChangeSpec := { name := "natHuge", fn := fun _ => fun
  | [d1, d2] => { results := [.lit (.bool false)], args := [d1, d2] }
  | _ => none }
def NatHugeWrongFalsely : Prop := natHugeRow.holds Try.pinned (OpenSpec.ofChange natHugeWrong)

/-- 'plumblaw02.NatFresh': WHATEVER THE INPUT: true; the input reads as it did. -/
def natFreshSpec : ChangeSpec := { name := "natFresh", fn := fun _ => fun
  | [d1, d2, d3] => { results := [.lit (.bool true)], args := [d1, d2, d3] }
  | _ => none }
def natFreshRow : OpenClaim := { program := "ytandibmpaamfbaa", sum := "c2a1b727102064343b3e80fa63fcbd5d0b0e8c2a455dd07309ce794819b30e5d", func := "plumb/plumblaw02.NatFresh", spec := "natFresh", apart := false }
def NatFreshSaid : Prop := natFreshRow.holds Try.pinned (OpenSpec.ofChange natFreshSpec)

/-- ITS FALSE NEIGHBOUR: 'it returns false'. Refute it at one input. -/
def natFreshWrong : ChangeSpec := { name := "natFresh", fn := fun _ => fun
  | [d1, d2, d3] => { results := [.lit (.bool false)], args := [d1, d2, d3] }
  | _ => none }
def NatFreshWrongFalsely : Prop := natFreshRow.holds Try.pinned (OpenSpec.ofChange natFreshWrong)

/-- 'plumblaw03.QuotDivs': WHATEVER THE INPUT: true; the input reads as it did. -/
def quotDivsSpec : ChangeSpec := { name := "quotDivs", fn := fun _ => fun
  | [d1, d2, d3] => { results := [.lit (.bool true)], args := [d1, d2, d3] }
  | _ => none }
def quotDivsRow : OpenClaim := { program := "ytandibmpaamfbaa", sum := "c2a1b727102064343b3e80fa63fcbd5d0b0e8c2a455dd07309ce794819b30e5d", func := "plumb/plumblaw03.QuotDivs", spec := "quotDivs", apart := false }
def QuotDivsSaid : Prop := quotDivsRow.holds Try.pinned (OpenSpec.ofChange quotDivsSpec)

/-- ITS FALSE NEIGHBOUR: 'it returns false'. Refute it at one input. -/
def quotDivsWrong : ChangeSpec := { name := "quotDivs", fn := fun _ => fun
  | [d1, d2, d3] => { results := [.lit (.bool false)], args := [d1, d2, d3] }
  | _ => none }
def QuotDivsWrongFalsely : Prop := quotDivsRow.holds Try.pinned (OpenSpec.ofChange quotDivsWrong)

/-- 'plumblaw03.QuotGcds': WHATEVER THE INPUT: true; the input reads as it did. -/
def quotGcdsSpec : ChangeSpec := { name := "quotGcds", fn := fun _ => fun
  | [d1, d2] => { results := [.lit (.bool true)], args := [d1, d2] }
  | _ => none }
def quotGcdsRow : OpenClaim := { program := "ytandibmpaamfbaa", sum := "c2a1b727102064343b3e80fa63fcbd5d0b0e8c2a455dd07309ce794819b30e5d", func := "plumb/plumblaw03.QuotGcds", spec := "quotGcds", apart := false }
def QuotGcdsSaid : Prop := quotGcdsRow.holds Try.pinned (OpenSpec.ofChange quotGcdsSpec)

/-- ITS FALSE NEIGHBOUR: 'it returns false'. Refute it at one input. -/
def quotGcdsWrong : ChangeSpec := { name := "quotGcds", fn := fun _ => fun
  | [d1, d2] => { results := [.lit (.bool false)], args := [d1, d2] }
  | _ => none }
def QuotGcdsWrongFalsely : Prop := quotGcdsRow.holds Try.pinned (OpenSpec.ofChange quotGcdsWrong)

/-- 'plumblaw03.QuotFresh': WHATEVER THE INPUT: true; the input reads as it did. -/
def quotFreshSpec : ChangeSpec := { name := "quotFresh", fn := fun _ => fun
  | [d1, d2] => { results := [.lit (.bool true)], args := [d1, d2] }
  | _ => none }
def quotFreshRow : OpenClaim := { program := "ytandibmpaamfbaa", sum := "c2a1b727102064343b3e80fa63fcbd5d0b0e8c2a455dd07309ce794819b30e5d", func := "plumb/plumblaw03.QuotFresh", spec := "quotFresh", apart := false }
def QuotFreshSaid : Prop := quotFreshRow.holds Try.pinned (OpenSpec.ofChange quotFreshSpec)

/-- ITS FALSE NEIGHBOUR: 'it returns false'. Refute it at one input. -/
def quotFreshWrong : ChangeSpec := { name := "quotFresh", fn := fun _ => fun
  | [d1, d2] => { results := [.lit (.bool false)], args := [d1, d2] }
  | _ => none }
def QuotFreshWrongFalsely : Prop := quotFreshRow.holds Try.pinned (OpenSpec.ofChange quotFreshWrong)

/-- 'plumblaw03.QuotDivides': WHATEVER THE INPUT: true; the input reads as it did. -/
def quotDividesSpec : ChangeSpec := { name := "quotDivides", fn := fun _ => fun
  | [d1, d2] => { results := [.lit (.bool true)], args := [d1, d2] }
  | _ => none }
def quotDividesRow : OpenClaim := { program := "ytandibmpaamfbaa", sum := "c2a1b727102064343b3e80fa63fcbd5d0b0e8c2a455dd07309ce794819b30e5d", func := "plumb/plumblaw03.QuotDivides", spec := "quotDivides", apart := false }
def QuotDividesSaid : Prop := quotDividesRow.holds Try.pinned (OpenSpec.ofChange quotDividesSpec)

/-- ITS FALSE NEIGHBOUR: 'it returns false'. Refute it at one input. -/
def quotDividesWrong : ChangeSpec := { name := "quotDivides", fn := fun _ => fun
  | [d1, d2] => { results := [.lit (.bool false)], args := [d1, d2] }
  | _ => none }
def QuotDividesWrongFalsely : Prop := quotDividesRow.holds Try.pinned (OpenSpec.ofChange quotDividesWrong)

/-- 'plumblaw03.QuotBack': WHATEVER THE INPUT: true; the input reads as it did. -/
def quotBackSpec : ChangeSpec := { name := "quotBack", fn := fun _ => fun
  | [d1, d2, d3] => { results := [.lit (.bool true)], args := [d1, d2, d3] }
  | _ => none }
def quotBackRow : OpenClaim := { program := "ytandibmpaamfbaa", sum := "c2a1b727102064343b3e80fa63fcbd5d0b0e8c2a455dd07309ce794819b30e5d", func := "plumb/plumblaw03.QuotBack", spec := "quotBack", apart := false }
def QuotBackSaid : Prop := quotBackRow.holds Try.pinned (OpenSpec.ofChange quotBackSpec)

/-- ITS FALSE NEIGHBOUR: 'it returns false'. Refute it at one input. -/
def quotBackWrong : ChangeSpec := { name := "quotBack", fn := fun _ => fun
  | [d1, d2, d3] => { results := [.lit (.bool false)], args := [d1, d2, d3] }
  | _ => none }
def QuotBackWrongFalsely : Prop := quotBackRow.holds Try.pinned (OpenSpec.ofChange quotBackWrong)

/-- 'plumblaw03.QuotPowers': WHATEVER THE INPUT: true; the input reads as it did. -/
def quotPowersSpec : ChangeSpec := { name := "quotPowers", fn := fun _ => fun
  | [d1, d2, d3] => { results := [.lit (.bool true)], args := [d1, d2, d3] }
  | _ => none }
def quotPowersRow : OpenClaim := { program := "ytandibmpaamfbaa", sum := "c2a1b727102064343b3e80fa63fcbd5d0b0e8c2a455dd07309ce794819b30e5d", func := "plumb/plumblaw03.QuotPowers", spec := "quotPowers", apart := false }
def QuotPowersSaid : Prop := quotPowersRow.holds Try.pinned (OpenSpec.ofChange quotPowersSpec)

/-- ITS FALSE NEIGHBOUR: 'it returns false'. Refute it at one input. -/
def quotPowersWrong : ChangeSpec := { name := "quotPowers", fn := fun _ => fun
  | [d1, d2, d3] => { results := [.lit (.bool false)], args := [d1, d2, d3] }
  | _ => none }
def QuotPowersWrongFalsely : Prop := quotPowersRow.holds Try.pinned (OpenSpec.ofChange quotPowersWrong)

/-- 'plumblaw03.QuotSquares': WHATEVER THE INPUT: true; the input reads as it did. -/
def quotSquaresSpec : ChangeSpec := { name := "quotSquares", fn := fun _ => fun
  | [d] => { results := [.lit (.bool true)], args := [d] }
  | _ => none }
def quotSquaresRow : OpenClaim := { program := "ytandibmpaamfbaa", sum := "c2a1b727102064343b3e80fa63fcbd5d0b0e8c2a455dd07309ce794819b30e5d", func := "plumb/plumblaw03.QuotSquares", spec := "quotSquares", apart := false }
def QuotSquaresSaid : Prop := quotSquaresRow.holds Try.pinned (OpenSpec.ofChange quotSquaresSpec)

/-- ITS FALSE NEIGHBOUR: 'it returns false'. Refute it at one input. -/
def quotSquaresWrong : ChangeSpec := { name := "quotSquares", fn := fun _ => fun
  | [d] => { results := [.lit (.bool false)], args := [d] }
  | _ => none }
def QuotSquaresWrongFalsely : Prop := quotSquaresRow.holds Try.pinned (OpenSpec.ofChange quotSquaresWrong)

/-- 'plumblaw03.QuotCommon': WHATEVER THE INPUT: true; the input reads as it did. -/
def quotCommonSpec : ChangeSpec := { name := "quotCommon", fn := fun _ => fun
  | [d1, d2, d3] => { results := [.lit (.bool true)], args := [d1, d2, d3] }
  | _ => none }
def quotCommonRow : OpenClaim := { program := "ytandibmpaamfbaa", sum := "c2a1b727102064343b3e80fa63fcbd5d0b0e8c2a455dd07309ce794819b30e5d", func := "plumb/plumblaw03.QuotCommon", spec := "quotCommon", apart := false }
def QuotCommonSaid : Prop := quotCommonRow.holds Try.pinned (OpenSpec.ofChange quotCommonSpec)

/-- ITS FALSE NEIGHBOUR: 'it returns false'. Refute it at one input. -/
def quotCommonWrong : ChangeSpec := { name := "quotCommon", fn := fun _ => fun
  | [d1, d2, d3] => { results := [.lit (.bool false)], args := [d1, d2, d3] }
  | _ => none }
def QuotCommonWrongFalsely : Prop := quotCommonRow.holds Try.pinned (OpenSpec.ofChange quotCommonWrong)

/-- 'plumblaw08.PowerRises': WHATEVER THE INPUT: true; the input reads as it did. -/
def powerRisesSpec : ChangeSpec := { name := "powerRises", fn := fun _ => fun
  | [d] => { results := [.lit (.bool true)], args := [d] }
  | _ => none }
def powerRisesRow : OpenClaim := { program := "ytandibmpaamfbaa", sum := "c2a1b727102064343b3e80fa63fcbd5d0b0e8c2a455dd07309ce794819b30e5d", func := "plumb/plumblaw08.PowerRises", spec := "powerRises", unfollowed := true, recurses := true, apart := false }
def PowerRisesSaid : Prop := powerRisesRow.holds Try.pinned (OpenSpec.ofChange powerRisesSpec)

/-- ITS FALSE NEIGHBOUR: 'it returns false'. Refute it at one input. -/
def powerRisesWrong : ChangeSpec := { name := "powerRises", fn := fun _ => fun
  | [d] => { results := [.lit (.bool false)], args := [d] }
  | _ => none }
def PowerRisesWrongFalsely : Prop := powerRisesRow.holds Try.pinned (OpenSpec.ofChange powerRisesWrong)

/-- 'plumblaw08.PowerProducts': WHATEVER THE INPUT: true; the input reads as it did. -/
def powerProductsSpec : ChangeSpec := { name := "powerProducts", fn := fun _ => fun
  | [d1, d2] => { results := [.lit (.bool true)], args := [d1, d2] }
  | _ => none }
def powerProductsRow : OpenClaim := { program := "ytandibmpaamfbaa", sum := "c2a1b727102064343b3e80fa63fcbd5d0b0e8c2a455dd07309ce794819b30e5d", func := "plumb/plumblaw08.PowerProducts", spec := "powerProducts", unfollowed := true, recurses := true, apart := false }
def PowerProductsSaid : Prop := powerProductsRow.holds Try.pinned (OpenSpec.ofChange powerProductsSpec)

/-- ITS FALSE NEIGHBOUR: 'it returns false'. Refute it at one input. -/
def powerProductsWrong : ChangeSpec := { name := "powerProducts", fn := fun _ => fun
  | [d1, d2] => { results := [.lit (.bool false)], args := [d1, d2] }
  | _ => none }
def PowerProductsWrongFalsely : Prop := powerProductsRow.holds Try.pinned (OpenSpec.ofChange powerProductsWrong)

/-- 'plumblaw08.PowerBounds': WHATEVER THE INPUT: true; the input reads as it did. -/
def powerBoundsSpec : ChangeSpec := { name := "powerBounds", fn := fun _ => fun
  | [d] => { results := [.lit (.bool true)], args := [d] }
  | _ => none }
def powerBoundsRow : OpenClaim := { program := "ytandibmpaamfbaa", sum := "c2a1b727102064343b3e80fa63fcbd5d0b0e8c2a455dd07309ce794819b30e5d", func := "plumb/plumblaw08.PowerBounds", spec := "powerBounds", unfollowed := true, recurses := true, apart := false }
def PowerBoundsSaid : Prop := powerBoundsRow.holds Try.pinned (OpenSpec.ofChange powerBoundsSpec)

/-- ITS FALSE NEIGHBOUR: 'it returns false'. Refute it at one input. -/
def powerBoundsWrong : ChangeSpec := { name := "powerBounds", fn := fun _ => fun
  | [d] => { results := [.lit (.bool false)], args := [d] }
  | _ => none }
def PowerBoundsWrongFalsely : Prop := powerBoundsRow.holds Try.pinned (OpenSpec.ofChange powerBoundsWrong)

/-- 'plumblaw08.PowerTens': WHATEVER THE INPUT: true; the input reads as it did. -/
def powerTensSpec : ChangeSpec := { name := "powerTens", fn := fun _ => fun
  | [d] => { results := [.lit (.bool true)], args := [d] }
  | _ => none }
def powerTensRow : OpenClaim := { program := "ytandibmpaamfbaa", sum := "c2a1b727102064343b3e80fa63fcbd5d0b0e8c2a455dd07309ce794819b30e5d", func := "plumb/plumblaw08.PowerTens", spec := "powerTens", unfollowed := true, recurses := true, apart := false }
def PowerTensSaid : Prop := powerTensRow.holds Try.pinned (OpenSpec.ofChange powerTensSpec)

/-- ITS FALSE NEIGHBOUR: 'it returns false'. Refute it at one input. -/
def powerTensWrong : ChangeSpec := { name := "powerTens", fn := fun _ => fun
  | [d] => { results := [.lit (.bool false)], args := [d] }
  | _ => none }
def PowerTensWrongFalsely : Prop := powerTensRow.holds Try.pinned (OpenSpec.ofChange powerTensWrong)

/-- 'plumblaw08.PowerStays': WHATEVER THE INPUT: true; the input reads as it did. -/
def powerStaysSpec : ChangeSpec := { name := "powerStays", fn := fun _ => fun
  | [d1, d2] => { results := [.lit (.bool true)], args := [d1, d2] }
  | _ => none }
def powerStaysRow : OpenClaim := { program := "ytandibmpaamfbaa", sum := "c2a1b727102064343b3e80fa63fcbd5d0b0e8c2a455dd07309ce794819b30e5d", func := "plumb/plumblaw08.PowerStays", spec := "powerStays", unfollowed := true, recurses := true, apart := false }
def PowerStaysSaid : Prop := powerStaysRow.holds Try.pinned (OpenSpec.ofChange powerStaysSpec)

/-- ITS FALSE NEIGHBOUR: 'it returns false'. Refute it at one input. -/
def powerStaysWrong : ChangeSpec := { name := "powerStays", fn := fun _ => fun
  | [d1, d2] => { results := [.lit (.bool false)], args := [d1, d2] }
  | _ => none }
def PowerStaysWrongFalsely : Prop := powerStaysRow.holds Try.pinned (OpenSpec.ofChange powerStaysWrong)

/-- 'plumblaw08.PowerFives': WHATEVER THE INPUT: true; the input reads as it did. -/
def powerFivesSpec : ChangeSpec := { name := "powerFives", fn := fun _ => fun
  | [d] => { results := [.lit (.bool true)], args := [d] }
  | _ => none }
def powerFivesRow : OpenClaim := { program := "ytandibmpaamfbaa", sum := "c2a1b727102064343b3e80fa63fcbd5d0b0e8c2a455dd07309ce794819b30e5d", func := "plumb/plumblaw08.PowerFives", spec := "powerFives", unfollowed := true, recurses := true, apart := false }
def PowerFivesSaid : Prop := powerFivesRow.holds Try.pinned (OpenSpec.ofChange powerFivesSpec)

/-- ITS FALSE NEIGHBOUR: 'it returns false'. Refute it at one input. -/
def powerFivesWrong : ChangeSpec := { name := "powerFives", fn := fun _ => fun
  | [d] => { results := [.lit (.bool false)], args := [d] }
  | _ => none }
def PowerFivesWrongFalsely : Prop := powerFivesRow.holds Try.pinned (OpenSpec.ofChange powerFivesWrong)

/- THE SECOND FORM. 'bulk': how many values and letters a reading holds, each counted each time it is reached (what is shared counts as often as it is met; a slice's spare places count too). A statement '..UptoSaid' is the law's where the arguments, and the package variables that the reading takes, are together of bulk at most 1048576: NARROWER than '..Said'. Prove '..Said' where nothing that the law and all that it calls make is longer than what came in: it says more and counts as full. Else prove '..UptoSaid'. A law counts once. -/
mutual
def uptoBulk {H : Type} : DataW H → Nat
  | .lit (.string bytes) => bytes.length + 1
  | .lit _ => 1
  | .nil => 1
  | .ptr d => uptoBulk d + 1
  | .slice elems spare => uptoBulkAll elems + uptoBulkAll spare + 1
  | .agg parts => uptoBulkAll parts + 1
  | .iface _ d => uptoBulk d + 1
  | .map entries => uptoBulkEntries entries + 1
  | .held _ => 1
def uptoBulkAll {H : Type} : List (DataW H) → Nat
  | [] => 0
  | d :: r => uptoBulk d + uptoBulkAll r
def uptoBulkEntries {H : Type} : List (Lit × DataW H) → Nat
  | [] => 0
  | x :: r => uptoBulkEntry x + uptoBulkEntries r
def uptoBulkEntry {H : Type} : Lit × DataW H → Nat
  | (.string bytes, d) => bytes.length + uptoBulk d + 1
  | (_, d) => uptoBulk d + 1
 end
def uptoSmall : (H : Type) → List (DataW H) → Bool := fun _ ds => decide (uptoBulkAll ds ≤ 1048576)
def OpenSpec.upto (s : _root_.Go.ChangeSpec) : _root_.Go.OpenSpec := { _root_.Go.OpenSpec.ofChange s with cond := some uptoSmall }

/-- 'plumblaw02.NatBack', WHERE WHAT IT READS IS OF BULK AT MOST 1048576: true; the input reads as it did. -/
def natBackUptoRow : OpenClaim := { program := "ytandibmpaamfbaa", sum := "c2a1b727102064343b3e80fa63fcbd5d0b0e8c2a455dd07309ce794819b30e5d", func := "plumb/plumblaw02.NatBack", spec := "natBack", apart := false, narrowed := true }
def NatBackUptoSaid : Prop := natBackUptoRow.holds Try.pinned (OpenSpec.upto natBackSpec)

/-- 'plumblaw02.NatRing', WHERE WHAT IT READS IS OF BULK AT MOST 1048576: true; the input reads as it did. -/
def natRingUptoRow : OpenClaim := { program := "ytandibmpaamfbaa", sum := "c2a1b727102064343b3e80fa63fcbd5d0b0e8c2a455dd07309ce794819b30e5d", func := "plumb/plumblaw02.NatRing", spec := "natRing", apart := false, narrowed := true }
def NatRingUptoSaid : Prop := natRingUptoRow.holds Try.pinned (OpenSpec.upto natRingSpec)

/-- 'plumblaw02.NatBits', WHERE WHAT IT READS IS OF BULK AT MOST 1048576: true; the input reads as it did. -/
def natBitsUptoRow : OpenClaim := { program := "ytandibmpaamfbaa", sum := "c2a1b727102064343b3e80fa63fcbd5d0b0e8c2a455dd07309ce794819b30e5d", func := "plumb/plumblaw02.NatBits", spec := "natBits", apart := false, narrowed := true }
def NatBitsUptoSaid : Prop := natBitsUptoRow.holds Try.pinned (OpenSpec.upto natBitsSpec)

/-- 'plumblaw03.QuotPows', WHERE WHAT IT READS IS OF BULK AT MOST 1048576: true; the input reads as it did. -/
def quotPowsUptoRow : OpenClaim := { program := "ytandibmpaamfbaa", sum := "c2a1b727102064343b3e80fa63fcbd5d0b0e8c2a455dd07309ce794819b30e5d", func := "plumb/plumblaw03.QuotPows", spec := "quotPows", apart := false, narrowed := true }
def QuotPowsUptoSaid : Prop := quotPowsUptoRow.holds Try.pinned (OpenSpec.upto quotPowsSpec)

/-- 'plumblaw02.NatShifts', WHERE WHAT IT READS IS OF BULK AT MOST 1048576: true; the input reads as it did. -/
def natShiftsUptoRow : OpenClaim := { program := "ytandibmpaamfbaa", sum := "c2a1b727102064343b3e80fa63fcbd5d0b0e8c2a455dd07309ce794819b30e5d", func := "plumb/plumblaw02.NatShifts", spec := "natShifts", apart := false, narrowed := true }
def NatShiftsUptoSaid : Prop := natShiftsUptoRow.holds Try.pinned (OpenSpec.upto natShiftsSpec)

/-- 'plumblaw02.NatOrder', WHERE WHAT IT READS IS OF BULK AT MOST 1048576: true; the input reads as it did. -/
def natOrderUptoRow : OpenClaim := { program := "ytandibmpaamfbaa", sum := "c2a1b727102064343b3e80fa63fcbd5d0b0e8c2a455dd07309ce794819b30e5d", func := "plumb/plumblaw02.NatOrder", spec := "natOrder", apart := false, narrowed := true }
def NatOrderUptoSaid : Prop := natOrderUptoRow.holds Try.pinned (OpenSpec.upto natOrderSpec)

/-- 'plumblaw02.NatAdds', WHERE WHAT IT READS IS OF BULK AT MOST 1048576: true; the input reads as it did. -/
def natAddsUptoRow : OpenClaim := { program := "ytandibmpaamfbaa", sum := "c2a1b727102064343b3e80fa63fcbd5d0b0e8c2a455dd07309ce794819b30e5d", func := "plumb/plumblaw02.NatAdds", spec := "natAdds", apart := false, narrowed := true }
def NatAddsUptoSaid : Prop := natAddsUptoRow.holds Try.pinned (OpenSpec.upto natAddsSpec)

/-- 'plumblaw02.NatSteps', WHERE WHAT IT READS IS OF BULK AT MOST 1048576: true; the input reads as it did. -/
def natStepsUptoRow : OpenClaim := { program := "ytandibmpaamfbaa", sum := "c2a1b727102064343b3e80fa63fcbd5d0b0e8c2a455dd07309ce794819b30e5d", func := "plumb/plumblaw02.NatSteps", spec := "natSteps", apart := false, narrowed := true }
def NatStepsUptoSaid : Prop := natStepsUptoRow.holds Try.pinned (OpenSpec.upto natStepsSpec)

/-- 'plumblaw02.NatHuge', WHERE WHAT IT READS IS OF BULK AT MOST 1048576: true; the input reads as it did. -/
def natHugeUptoRow : OpenClaim := { program := "ytandibmpaamfbaa", sum := "c2a1b727102064343b3e80fa63fcbd5d0b0e8c2a455dd07309ce794819b30e5d", func := "plumb/plumblaw02.NatHuge", spec := "natHuge", apart := false, narrowed := true }
def NatHugeUptoSaid : Prop := natHugeUptoRow.holds Try.pinned (OpenSpec.upto natHugeSpec)

/-- 'plumblaw02.NatFresh', WHERE WHAT IT READS IS OF BULK AT MOST 1048576: true; the input reads as it did. -/
def natFreshUptoRow : OpenClaim := { program := "ytandibmpaamfbaa", sum := "c2a1b727102064343b3e80fa63fcbd5d0b0e8c2a455dd07309ce794819b30e5d", func := "plumb/plumblaw02.NatFresh", spec := "natFresh", apart := false, narrowed := true }
def NatFreshUptoSaid : Prop := natFreshUptoRow.holds Try.pinned (OpenSpec.upto natFreshSpec)

/-- 'plumblaw03.QuotDivs', WHERE WHAT IT READS IS OF BULK AT MOST 1048576: true; the input reads as it did. -/
def quotDivsUptoRow : OpenClaim := { program := "ytandibmpaamfbaa", sum := "c2a1b727102064343b3e80fa63fcbd5d0b0e8c2a455dd07309ce794819b30e5d", func := "plumb/plumblaw03.QuotDivs", spec := "quotDivs", apart := false, narrowed := true }
def QuotDivsUptoSaid : Prop := quotDivsUptoRow.holds Try.pinned (OpenSpec.upto quotDivsSpec)

/-- 'plumblaw03.QuotGcds', WHERE WHAT IT READS IS OF BULK AT MOST 1048576: true; the input reads as it did. -/
def quotGcdsUptoRow : OpenClaim := { program := "ytandibmpaamfbaa", sum := "c2a1b727102064343b3e80fa63fcbd5d0b0e8c2a455dd07309ce794819b30e5d", func := "plumb/plumblaw03.QuotGcds", spec := "quotGcds", apart := false, narrowed := true }
def QuotGcdsUptoSaid : Prop := quotGcdsUptoRow.holds Try.pinned (OpenSpec.upto quotGcdsSpec)

/-- 'plumblaw03.QuotFresh', WHERE WHAT IT READS IS OF BULK AT MOST 1048576: true; the input reads as it did. -/
def quotFreshUptoRow : OpenClaim := { program := "ytandibmpaamfbaa", sum := "c2a1b727102064343b3e80fa63fcbd5d0b0e8c2a455dd07309ce794819b30e5d", func := "plumb/plumblaw03.QuotFresh", spec := "quotFresh", apart := false, narrowed := true }
def QuotFreshUptoSaid : Prop := quotFreshUptoRow.holds Try.pinned (OpenSpec.upto quotFreshSpec)

/-- 'plumblaw03.QuotDivides', WHERE WHAT IT READS IS OF BULK AT MOST 1048576: true; the input reads as it did. -/
def quotDividesUptoRow : OpenClaim := { program := "ytandibmpaamfbaa", sum := "c2a1b727102064343b3e80fa63fcbd5d0b0e8c2a455dd07309ce794819b30e5d", func := "plumb/plumblaw03.QuotDivides", spec := "quotDivides", apart := false, narrowed := true }
def QuotDividesUptoSaid : Prop := quotDividesUptoRow.holds Try.pinned (OpenSpec.upto quotDividesSpec)

/-- 'plumblaw03.QuotBack', WHERE WHAT IT READS IS OF BULK AT MOST 1048576: true; the input reads as it did. -/
def quotBackUptoRow : OpenClaim := { program := "ytandibmpaamfbaa", sum := "c2a1b727102064343b3e80fa63fcbd5d0b0e8c2a455dd07309ce794819b30e5d", func := "plumb/plumblaw03.QuotBack", spec := "quotBack", apart := false, narrowed := true }
def QuotBackUptoSaid : Prop := quotBackUptoRow.holds Try.pinned (OpenSpec.upto quotBackSpec)

/-- 'plumblaw03.QuotPowers', WHERE WHAT IT READS IS OF BULK AT MOST 1048576: true; the input reads as it did. -/
def quotPowersUptoRow : OpenClaim := { program := "ytandibmpaamfbaa", sum := "c2a1b727102064343b3e80fa63fcbd5d0b0e8c2a455dd07309ce794819b30e5d", func := "plumb/plumblaw03.QuotPowers", spec := "quotPowers", apart := false, narrowed := true }
def QuotPowersUptoSaid : Prop := quotPowersUptoRow.holds Try.pinned (OpenSpec.upto quotPowersSpec)

/-- 'plumblaw03.QuotSquares', WHERE WHAT IT READS IS OF BULK AT MOST 1048576: true; the input reads as it did. -/
def quotSquaresUptoRow : OpenClaim := { program := "ytandibmpaamfbaa", sum := "c2a1b727102064343b3e80fa63fcbd5d0b0e8c2a455dd07309ce794819b30e5d", func := "plumb/plumblaw03.QuotSquares", spec := "quotSquares", apart := false, narrowed := true }
def QuotSquaresUptoSaid : Prop := quotSquaresUptoRow.holds Try.pinned (OpenSpec.upto quotSquaresSpec)

/-- 'plumblaw03.QuotCommon', WHERE WHAT IT READS IS OF BULK AT MOST 1048576: true; the input reads as it did. -/
def quotCommonUptoRow : OpenClaim := { program := "ytandibmpaamfbaa", sum := "c2a1b727102064343b3e80fa63fcbd5d0b0e8c2a455dd07309ce794819b30e5d", func := "plumb/plumblaw03.QuotCommon", spec := "quotCommon", apart := false, narrowed := true }
def QuotCommonUptoSaid : Prop := quotCommonUptoRow.holds Try.pinned (OpenSpec.upto quotCommonSpec)

/-- 'plumblaw08.PowerRises', WHERE WHAT IT READS IS OF BULK AT MOST 1048576: true; the input reads as it did. -/
def powerRisesUptoRow : OpenClaim := { program := "ytandibmpaamfbaa", sum := "c2a1b727102064343b3e80fa63fcbd5d0b0e8c2a455dd07309ce794819b30e5d", func := "plumb/plumblaw08.PowerRises", spec := "powerRises", unfollowed := true, recurses := true, apart := false, narrowed := true }
def PowerRisesUptoSaid : Prop := powerRisesUptoRow.holds Try.pinned (OpenSpec.upto powerRisesSpec)

/-- 'plumblaw08.PowerProducts', WHERE WHAT IT READS IS OF BULK AT MOST 1048576: true; the input reads as it did. -/
def powerProductsUptoRow : OpenClaim := { program := "ytandibmpaamfbaa", sum := "c2a1b727102064343b3e80fa63fcbd5d0b0e8c2a455dd07309ce794819b30e5d", func := "plumb/plumblaw08.PowerProducts", spec := "powerProducts", unfollowed := true, recurses := true, apart := false, narrowed := true }
def PowerProductsUptoSaid : Prop := powerProductsUptoRow.holds Try.pinned (OpenSpec.upto powerProductsSpec)

/-- 'plumblaw08.PowerBounds', WHERE WHAT IT READS IS OF BULK AT MOST 1048576: true; the input reads as it did. -/
def powerBoundsUptoRow : OpenClaim := { program := "ytandibmpaamfbaa", sum := "c2a1b727102064343b3e80fa63fcbd5d0b0e8c2a455dd07309ce794819b30e5d", func := "plumb/plumblaw08.PowerBounds", spec := "powerBounds", unfollowed := true, recurses := true, apart := false, narrowed := true }
def PowerBoundsUptoSaid : Prop := powerBoundsUptoRow.holds Try.pinned (OpenSpec.upto powerBoundsSpec)

/-- 'plumblaw08.PowerTens', WHERE WHAT IT READS IS OF BULK AT MOST 1048576: true; the input reads as it did. -/
def powerTensUptoRow : OpenClaim := { program := "ytandibmpaamfbaa", sum := "c2a1b727102064343b3e80fa63fcbd5d0b0e8c2a455dd07309ce794819b30e5d", func := "plumb/plumblaw08.PowerTens", spec := "powerTens", unfollowed := true, recurses := true, apart := false, narrowed := true }
def PowerTensUptoSaid : Prop := powerTensUptoRow.holds Try.pinned (OpenSpec.upto powerTensSpec)

/-- 'plumblaw08.PowerStays', WHERE WHAT IT READS IS OF BULK AT MOST 1048576: true; the input reads as it did. -/
def powerStaysUptoRow : OpenClaim := { program := "ytandibmpaamfbaa", sum := "c2a1b727102064343b3e80fa63fcbd5d0b0e8c2a455dd07309ce794819b30e5d", func := "plumb/plumblaw08.PowerStays", spec := "powerStays", unfollowed := true, recurses := true, apart := false, narrowed := true }
def PowerStaysUptoSaid : Prop := powerStaysUptoRow.holds Try.pinned (OpenSpec.upto powerStaysSpec)

/-- 'plumblaw08.PowerFives', WHERE WHAT IT READS IS OF BULK AT MOST 1048576: true; the input reads as it did. -/
def powerFivesUptoRow : OpenClaim := { program := "ytandibmpaamfbaa", sum := "c2a1b727102064343b3e80fa63fcbd5d0b0e8c2a455dd07309ce794819b30e5d", func := "plumb/plumblaw08.PowerFives", spec := "powerFives", unfollowed := true, recurses := true, apart := false, narrowed := true }
def PowerFivesUptoSaid : Prop := powerFivesUptoRow.holds Try.pinned (OpenSpec.upto powerFivesSpec)

end Rows
end Go.Proofs.Ytandibmpaamfbaa
