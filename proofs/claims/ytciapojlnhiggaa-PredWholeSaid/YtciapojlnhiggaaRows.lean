/-
  No cell of these rows narrows 'for every input' (looked for: loops, veiled, ifaces, maps, wideKeys, modest, calm, conditions, laid).
  DERIVED. THE GIVEN ROWS OF THIS SEAT. 6 by the template 'for every input the law returns true; each argument reads behind the call as it read before'; 0 by the template 'total and deterministic' (their statements: YtciapojlnhiggaaTotals.lean).
  GIVEN WITH THE SEED: the statements are not yours to turn. If you find one false, say at which input.
  Laid BY PROGRAM, IN A SANDBOX (cutbox-rows.mjs): the forced cells as the released guide's own fill.sh prints them over the translation a997ccec476acd3c… (all of the seat's roots in one cut). By AI agents, Wed Nov 11 2026. No macro, syntax, notation, axiom, sorry.
-/
import Derived.Test.YtciapojlnhiggaaChecked
import GoSem.Claim
import GoSem.ClaimJoined
import GoSem.ClaimMapViews
import Derived.JoinedTies
import Derived.KernelRfl
namespace Go.Proofs.Ytciapojlnhiggaa
/- THE CELL 'sum', in the pinned program and in every row, IS THE sha256 OF THE DUMP (.gsa) THAT YtciapojlnhiggaaProg.lean LOADS. Nothing in Lean hashes anything: it is a label: what it is worth is what the hold of that sum in a sandbox is worth. -/
noncomputable def Try.pinned : Pinned := { name := "ytciapojlnhiggaa", sum := "a997ccec476acd3c420182eb56420f9f14cd877f93b32b523e476496d6c65deb", checked := Try.checked }
namespace Rows
def none {H : Type} : Left H := { results := [], args := [] }

/-- 'plumblaw22.PredTurns': WHATEVER THE INPUT: true; the input reads as it did. -/
def predTurnsSpec : ChangeSpec := { name := "predTurns", fn := fun _ => fun
  | [d] => { results := [.lit (.bool true)], args := [d] }
  | _ => none }
def predTurnsRow : OpenClaim := { program := "ytciapojlnhiggaa", sum := "a997ccec476acd3c420182eb56420f9f14cd877f93b32b523e476496d6c65deb", func := "plumb/plumblaw22.PredTurns", spec := "predTurns", unfollowed := true, recurses := true, apart := false }
def PredTurnsSaid : Prop := predTurnsRow.holds Try.pinned (OpenSpec.ofChange predTurnsSpec)

/-- ITS FALSE NEIGHBOUR: 'it returns false'. Refute it at one input. -/
def predTurnsWrong : ChangeSpec := { name := "predTurns", fn := fun _ => fun
  | [d] => { results := [.lit (.bool false)], args := [d] }
  | _ => none }
def PredTurnsWrongFalsely : Prop := predTurnsRow.holds Try.pinned (OpenSpec.ofChange predTurnsWrong)

/-- 'plumblaw22.PredSteps': WHATEVER THE INPUT: true; the input reads as it did. -/
def predStepsSpec : ChangeSpec := { name := "predSteps", fn := fun _ => fun
  | [d] => { results := [.lit (.bool true)], args := [d] }
  | _ => none }
def predStepsRow : OpenClaim := { program := "ytciapojlnhiggaa", sum := "a997ccec476acd3c420182eb56420f9f14cd877f93b32b523e476496d6c65deb", func := "plumb/plumblaw22.PredSteps", spec := "predSteps", unfollowed := true, recurses := true, apart := false }
def PredStepsSaid : Prop := predStepsRow.holds Try.pinned (OpenSpec.ofChange predStepsSpec)

/-- ITS FALSE NEIGHBOUR: 'it returns false'. Refute it at one input. -/
def predStepsWrong : ChangeSpec := { name := "predSteps", fn := fun _ => fun
  | [d] => { results := [.lit (.bool false)], args := [d] }
  | _ => none }
def PredStepsWrongFalsely : Prop := predStepsRow.holds Try.pinned (OpenSpec.ofChange predStepsWrong)

/-- 'plumblaw22.PredOrders': WHATEVER THE INPUT: true; the input reads as it did. -/
def predOrdersSpec : ChangeSpec := { name := "predOrders", fn := fun _ => fun
  | [d] => { results := [.lit (.bool true)], args := [d] }
  | _ => none }
def predOrdersRow : OpenClaim := { program := "ytciapojlnhiggaa", sum := "a997ccec476acd3c420182eb56420f9f14cd877f93b32b523e476496d6c65deb", func := "plumb/plumblaw22.PredOrders", spec := "predOrders", unfollowed := true, recurses := true, apart := false }
def PredOrdersSaid : Prop := predOrdersRow.holds Try.pinned (OpenSpec.ofChange predOrdersSpec)

/-- ITS FALSE NEIGHBOUR: 'it returns false'. Refute it at one input. -/
def predOrdersWrong : ChangeSpec := { name := "predOrders", fn := fun _ => fun
  | [d] => { results := [.lit (.bool false)], args := [d] }
  | _ => none }
def PredOrdersWrongFalsely : Prop := predOrdersRow.holds Try.pinned (OpenSpec.ofChange predOrdersWrong)

/-- 'plumblaw22.PredWhole': WHATEVER THE INPUT: true; the input reads as it did. -/
def predWholeSpec : ChangeSpec := { name := "predWhole", fn := fun _ => fun
  | [d] => { results := [.lit (.bool true)], args := [d] }
  | _ => none }
def predWholeRow : OpenClaim := { program := "ytciapojlnhiggaa", sum := "a997ccec476acd3c420182eb56420f9f14cd877f93b32b523e476496d6c65deb", func := "plumb/plumblaw22.PredWhole", spec := "predWhole", unfollowed := true, recurses := true, apart := false }
def PredWholeSaid : Prop := predWholeRow.holds Try.pinned (OpenSpec.ofChange predWholeSpec)

/-- ITS FALSE NEIGHBOUR: 'it returns false'. Refute it at one input. -/
def predWholeWrong : ChangeSpec := { name := "predWhole", fn := fun _ => fun
  | [d] => { results := [.lit (.bool false)], args := [d] }
  | _ => none }
def PredWholeWrongFalsely : Prop := predWholeRow.holds Try.pinned (OpenSpec.ofChange predWholeWrong)

/-- 'plumblaw22.PredFresh': WHATEVER THE INPUT: true; the input reads as it did. -/
def predFreshSpec : ChangeSpec := { name := "predFresh", fn := fun _ => fun
  | [d1, d2] => { results := [.lit (.bool true)], args := [d1, d2] }
  | _ => none }
def predFreshRow : OpenClaim := { program := "ytciapojlnhiggaa", sum := "a997ccec476acd3c420182eb56420f9f14cd877f93b32b523e476496d6c65deb", func := "plumb/plumblaw22.PredFresh", spec := "predFresh", unfollowed := true, recurses := true, apart := false }
def PredFreshSaid : Prop := predFreshRow.holds Try.pinned (OpenSpec.ofChange predFreshSpec)

/-- ITS FALSE NEIGHBOUR: 'it returns false'. Refute it at one input. -/
def predFreshWrong : ChangeSpec := { name := "predFresh", fn := fun _ => fun
  | [d1, d2] => { results := [.lit (.bool false)], args := [d1, d2] }
  | _ => none }
def PredFreshWrongFalsely : Prop := predFreshRow.holds Try.pinned (OpenSpec.ofChange predFreshWrong)

/-- 'plumblaw22.PredConvex': WHATEVER THE INPUT: true; the input reads as it did. -/
def predConvexSpec : ChangeSpec := { name := "predConvex", fn := fun _ => fun
  | [d] => { results := [.lit (.bool true)], args := [d] }
  | _ => none }
def predConvexRow : OpenClaim := { program := "ytciapojlnhiggaa", sum := "a997ccec476acd3c420182eb56420f9f14cd877f93b32b523e476496d6c65deb", func := "plumb/plumblaw22.PredConvex", spec := "predConvex", unfollowed := true, recurses := true, apart := false }
def PredConvexSaid : Prop := predConvexRow.holds Try.pinned (OpenSpec.ofChange predConvexSpec)

/-- ITS FALSE NEIGHBOUR: 'it returns false'. Refute it at one input. -/
def predConvexWrong : ChangeSpec := { name := "predConvex", fn := fun _ => fun
  | [d] => { results := [.lit (.bool false)], args := [d] }
  | _ => none }
def PredConvexWrongFalsely : Prop := predConvexRow.holds Try.pinned (OpenSpec.ofChange predConvexWrong)

/- THE SECOND FORM. 'bulk': how many values and letters a reading holds, each counted each time it is reached (what is shared counts as often as it is met; a slice's spare places count too). A statement '..UptoSaid' is the law's where the arguments, and the package variables that the reading takes, are together of bulk at most 1048576: NARROWER than '..Said'. Prove '..Said' where nothing that the law and all that it calls make is longer than what came in: it says more and counts as full. Else prove '..UptoSaid'. A law counts once. -/
mutual
def uptoBulk {H : Type} : DataW H → Nat
  | .lit (.string bytes) => bytes.length + 1
  | .lit _ => 1
  | .nil => 1
  | .ptr d => uptoBulk d + 1
  | .slice elems spare => uptoBulkAll elems + uptoBulkAll spare + 1
  | .agg parts => uptoBulkAll parts + 1
  | .iface _ d => uptoBulk d + 1
  | .map entries => uptoBulkEntries entries + 1
  | .held _ => 1
def uptoBulkAll {H : Type} : List (DataW H) → Nat
  | [] => 0
  | d :: r => uptoBulk d + uptoBulkAll r
def uptoBulkEntries {H : Type} : List (Lit × DataW H) → Nat
  | [] => 0
  | x :: r => uptoBulkEntry x + uptoBulkEntries r
def uptoBulkEntry {H : Type} : Lit × DataW H → Nat
  | (.string bytes, d) => bytes.length + uptoBulk d + 1
  | (_, d) => uptoBulk d + 1
 end
def uptoSmall : (H : Type) → List (DataW H) → Bool := fun _ ds => decide (uptoBulkAll ds ≤ 1048576)
def OpenSpec.upto (s : _root_.Go.ChangeSpec) : _root_.Go.OpenSpec := { _root_.Go.OpenSpec.ofChange s with cond := some uptoSmall }

/-- 'plumblaw22.PredTurns', WHERE WHAT IT READS IS OF BULK AT MOST 1048576: true; the input reads as it did. -/
def predTurnsUptoRow : OpenClaim := { program := "ytciapojlnhiggaa", sum := "a997ccec476acd3c420182eb56420f9f14cd877f93b32b523e476496d6c65deb", func := "plumb/plumblaw22.PredTurns", spec := "predTurns", unfollowed := true, recurses := true, apart := false, narrowed := true }
def PredTurnsUptoSaid : Prop := predTurnsUptoRow.holds Try.pinned (OpenSpec.upto predTurnsSpec)

/-- 'plumblaw22.PredSteps', WHERE WHAT IT READS IS OF BULK AT MOST 1048576: true; the input reads as it did. -/
def predStepsUptoRow : OpenClaim := { program := "ytciapojlnhiggaa", sum := "a997ccec476acd3c420182eb56420f9f14cd877f93b32b523e476496d6c65deb", func := "plumb/plumblaw22.PredSteps", spec := "predSteps", unfollowed := true, recurses := true, apart := false, narrowed := true }
def PredStepsUptoSaid : Prop := predStepsUptoRow.holds Try.pinned (OpenSpec.upto predStepsSpec)

/-- 'plumblaw22.PredOrders', WHERE WHAT IT READS IS OF BULK AT MOST 1048576: true; the input reads as it did. -/
def predOrdersUptoRow : OpenClaim := { program := "ytciapojlnhiggaa", sum := "a997ccec476acd3c420182eb56420f9f14cd877f93b32b523e476496d6c65deb", func := "plumb/plumblaw22.PredOrders", spec := "predOrders", unfollowed := true, recurses := true, apart := false, narrowed := true }
def PredOrdersUptoSaid : Prop := predOrdersUptoRow.holds Try.pinned (OpenSpec.upto predOrdersSpec)

/-- 'plumblaw22.PredWhole', WHERE WHAT IT READS IS OF BULK AT MOST 1048576: true; the input reads as it did. -/
def predWholeUptoRow : OpenClaim := { program := "ytciapojlnhiggaa", sum := "a997ccec476acd3c420182eb56420f9f14cd877f93b32b523e476496d6c65deb", func := "plumb/plumblaw22.PredWhole", spec := "predWhole", unfollowed := true, recurses := true, apart := false, narrowed := true }
def PredWholeUptoSaid : Prop := predWholeUptoRow.holds Try.pinned (OpenSpec.upto predWholeSpec)

/-- 'plumblaw22.PredFresh', WHERE WHAT IT READS IS OF BULK AT MOST 1048576: true; the input reads as it did. -/
def predFreshUptoRow : OpenClaim := { program := "ytciapojlnhiggaa", sum := "a997ccec476acd3c420182eb56420f9f14cd877f93b32b523e476496d6c65deb", func := "plumb/plumblaw22.PredFresh", spec := "predFresh", unfollowed := true, recurses := true, apart := false, narrowed := true }
def PredFreshUptoSaid : Prop := predFreshUptoRow.holds Try.pinned (OpenSpec.upto predFreshSpec)

/-- 'plumblaw22.PredConvex', WHERE WHAT IT READS IS OF BULK AT MOST 1048576: true; the input reads as it did. -/
def predConvexUptoRow : OpenClaim := { program := "ytciapojlnhiggaa", sum := "a997ccec476acd3c420182eb56420f9f14cd877f93b32b523e476496d6c65deb", func := "plumb/plumblaw22.PredConvex", spec := "predConvex", unfollowed := true, recurses := true, apart := false, narrowed := true }
def PredConvexUptoSaid : Prop := predConvexUptoRow.holds Try.pinned (OpenSpec.upto predConvexSpec)

end Rows
end Go.Proofs.Ytciapojlnhiggaa
