/- Package-level variables that are looked at: what they hold when the call begins. -/
import Derived.Orders
set_option linter.unusedVariables false
namespace Go.RX

/-- The types of an error with its place, and of its number. -/
def errT : TypeId := 143
def errN : TypeId := 25

/-- Rows of whole numbers. -/
def globI : List (Nat × IntKind × List Int) := [(2, .u64, [1, 10, 100, 1000, 10000, 100000, 1000000, 10000000, 100000000, 1000000000, 10000000000, 100000000000, 1000000000000, 10000000000000, 100000000000000, 1000000000000000, 10000000000000000, 100000000000000000, 1000000000000000000, 10000000000000000000])]
/-- Others, by their cells. -/
def globV : List (Nat × List Value) := []
def gcells : List (Nat × List Value) := globI.map (fun p => (p.1, p.2.2.map (.int p.2.1))) ++ globV
end Go.RX
