/- Package-level variables that are looked at: what they hold when the call begins. -/
import Derived.Orders
set_option linter.unusedVariables false
namespace Go.RX

/-- The types of an error with its place, and of its number. -/
def errT : TypeId := 143
def errN : TypeId := 25

/-- Rows of whole numbers. -/
def globI : List (Nat × IntKind × List Int) := []
/-- Others, by their cells. -/
def globV : List (Nat × List Value) := []
def gcells : List (Nat × List Value) := globI.map (fun p => (p.1, p.2.2.map (.int p.2.1))) ++ globV
end Go.RX
