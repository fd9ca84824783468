/- The program's types. -/
import Derived.Test.YtkiihodbgdnijaaGreatDoorQc
import Derived.Test.YtkiihodbgdnijaaGreatDoorProg
set_option linter.unusedVariables false
set_option linter.unusedSimpArgs false
namespace Go.RX

def TysOk (P : Program) : List (Nat × TyD) → Prop
  | [] => True
  | (n, d) :: r => (∃ z, TyOk P n d z) ∧ TysOk P r
theorem tabOf_ok {P : Program} : ∀ {l : List (Nat × TyD)}, TysOk P l → TabOk P (tabOf l)
  | [], _, t, d, h => by simp [tabOf] at h
  | (n, e) :: r, ⟨h1, h2⟩, t, d, h => by
    simp only [tabOf] at h
    cases hb : Nat.beq n t
    · rw [hb, cond_false] at h
      exact tabOf_ok h2 t d h
    · rw [hb, cond_true, Option.some.injEq] at h
      have := Nat.eq_of_beq_eq_true hb
      subst this h
      exact h1
namespace S
open Go.Proofs

def tys : List (Nat × TyD) := [
  (103, ⟨.int .u64, 1, 8, .int .u64, .int .u64 0⟩),
  (3, ⟨.int .i64, 1, 8, .int .i64, .int .i64 0⟩),
  (4, ⟨.bool, 1, 1, .bool, .bool false⟩),
  (9, ⟨.str, 1, 16, .str, .str ⟨#[]⟩⟩),
  (5, ⟨.int .u8, 1, 1, .int .u8, .int .u8 0⟩),
  (21, ⟨.int .i32, 1, 4, .int .i32, .int .i32 0⟩),
  (42, ⟨.slice 5, 1, 24, .sl (.int .u8), .nilS⟩),
  (30, ⟨.slice 103, 1, 24, .sl (.int .u64), .nilS⟩),
  (48, ⟨.slice 3, 1, 24, .sl (.int .i64), .nilS⟩),
  (25, ⟨.int .i64, 1, 8, .int .i64, .int .i64 0⟩),
  (23, ⟨.st [(3, 0), (4, 1), (9, 2), (3, 3), (9, 4)], 5, 56, .st [.int .i64, .bool, .str, .int .i64, .str], .agg [.int .i64 0, .bool false, .str ⟨#[]⟩, .int .i64 0, .str ⟨#[]⟩]⟩),
  (44, ⟨.iface, 1, 16, .err, .nilI⟩),
  (50, ⟨.st [(3, 0), (3, 1), (48, 2), (48, 3), (4, 4), (4, 5), (3, 6), (4, 7), (4, 8)], 9, 88, .st [.int .i64, .int .i64, .sl (.int .i64), .sl (.int .i64), .bool, .bool, .int .i64, .bool, .bool], .agg [.int .i64 0, .int .i64 0, .nilS, .nilS, .bool false, .bool false, .int .i64 0, .bool false, .bool false]⟩),
  (59, ⟨.st [(3, 0), (3, 1), (4, 2)], 3, 24, .st [.int .i64, .int .i64, .bool], .agg [.int .i64 0, .int .i64 0, .bool false]⟩),
  (32, ⟨.st [(4, 0), (30, 1), (30, 2)], 3, 56, .st [.bool, .sl (.int .u64), .sl (.int .u64)], .agg [.bool false, .nilS, .nilS]⟩),
  (216, ⟨.int .u64, 1, 8, .int .u64, .int .u64 0⟩)]
def tab : Tab := tabOf tys

theorem hm : Tryz.prog.follows .mixedOrders = true := by kernel_rfl

theorem tab_ok : TabOk Tryz.prog tab := tabOf_ok
  ⟨⟨.int .u64 0, Tryz.underlying103, by kernel_rfl, fun W ok R => by simp [Rel0, lift, AV.isAgg, X], rfl, rfl, rfl, by decide, rfl, fun h => absurd h (by decide)⟩,
   ⟨.int .i64 0, Tryz.underlying3, by kernel_rfl, fun W ok R => by simp [Rel0, lift, AV.isAgg, X], rfl, rfl, rfl, by decide, rfl, fun h => absurd h (by decide)⟩,
   ⟨.bool false, Tryz.underlying4, by kernel_rfl, fun W ok R => by simp [Rel0, lift, AV.isAgg, X], rfl, rfl, rfl, by decide, rfl, fun h => absurd h (by decide)⟩,
   ⟨.string ⟨#[]⟩, Tryz.underlying9, by kernel_rfl, fun W ok R => by simp [Rel0, lift, AV.isAgg, X], rfl, rfl, rfl, by decide, rfl, fun h => absurd h (by decide)⟩,
   ⟨.int .u8 0, Tryz.underlying5, by kernel_rfl, fun W ok R => by simp [Rel0, lift, AV.isAgg, X], rfl, rfl, rfl, by decide, rfl, fun h => absurd h (by decide)⟩,
   ⟨.int .i32 0, Tryz.underlying21, by kernel_rfl, fun W ok R => by simp [Rel0, lift, AV.isAgg, X], rfl, rfl, rfl, by decide, rfl, fun h => absurd h (by decide)⟩,
   ⟨.slice none 0 0, Tryz.underlying42, by kernel_rfl, fun W ok R => by simp [Rel0, lift, AV.isAgg, X], rfl, rfl, rfl, by decide, rfl, fun h => absurd h (by decide)⟩,
   ⟨.slice none 0 0, Tryz.underlying30, by kernel_rfl, fun W ok R => by simp [Rel0, lift, AV.isAgg, X], rfl, rfl, rfl, by decide, rfl, fun h => absurd h (by decide)⟩,
   ⟨.slice none 0 0, Tryz.underlying48, by kernel_rfl, fun W ok R => by simp [Rel0, lift, AV.isAgg, X], rfl, rfl, rfl, by decide, rfl, fun h => absurd h (by decide)⟩,
   ⟨.int .i64 0, Tryz.underlying25, by kernel_rfl, fun W ok R => by simp [Rel0, lift, AV.isAgg, X], rfl, rfl, rfl, by decide, rfl, fun h => absurd h (by decide)⟩,
   ⟨.agg #[.int .i64 0, .bool false, .string ⟨#[]⟩, .int .i64 0, .string ⟨#[]⟩], ⟨_, Tryz.underlying23, rfl⟩, by kernel_rfl, fun W ok R => ⟨_, rfl, ⟨_, _, rfl, rfl, rfl, ⟨_, _, rfl, rfl, rfl, ⟨_, _, rfl, rfl, rfl, ⟨_, _, rfl, rfl, rfl, ⟨_, _, rfl, rfl, rfl, rfl⟩⟩⟩⟩⟩⟩, rfl, rfl, rfl, by decide, rfl, fun _ => ⟨by kernel_rfl, by kernel_rfl, by kernel_rfl⟩⟩,
   ⟨.nilIface, ⟨_, Tryz.underlying44⟩, by kernel_rfl, fun W ok R => by simp [Rel0, lift, AV.isAgg, X], rfl, rfl, rfl, by decide, rfl, fun h => absurd h (by decide)⟩,
   ⟨.agg #[.int .i64 0, .int .i64 0, .slice none 0 0, .slice none 0 0, .bool false, .bool false, .int .i64 0, .bool false, .bool false], ⟨_, Tryz.underlying50, rfl⟩, by kernel_rfl, fun W ok R => ⟨_, rfl, ⟨_, _, rfl, rfl, rfl, ⟨_, _, rfl, rfl, rfl, ⟨_, _, rfl, rfl, rfl, ⟨_, _, rfl, rfl, rfl, ⟨_, _, rfl, rfl, rfl, ⟨_, _, rfl, rfl, rfl, ⟨_, _, rfl, rfl, rfl, ⟨_, _, rfl, rfl, rfl, ⟨_, _, rfl, rfl, rfl, rfl⟩⟩⟩⟩⟩⟩⟩⟩⟩⟩, rfl, rfl, rfl, by decide, rfl, fun h => absurd h (by decide)⟩,
   ⟨.agg #[.int .i64 0, .int .i64 0, .bool false], ⟨_, Tryz.underlying59, rfl⟩, by kernel_rfl, fun W ok R => ⟨_, rfl, ⟨_, _, rfl, rfl, rfl, ⟨_, _, rfl, rfl, rfl, ⟨_, _, rfl, rfl, rfl, rfl⟩⟩⟩⟩, rfl, rfl, rfl, by decide, rfl, fun _ => ⟨by kernel_rfl, by kernel_rfl, by kernel_rfl⟩⟩,
   ⟨.agg #[.bool false, .slice none 0 0, .slice none 0 0], ⟨_, Tryz.underlying32, rfl⟩, by kernel_rfl, fun W ok R => ⟨_, rfl, ⟨_, _, rfl, rfl, rfl, ⟨_, _, rfl, rfl, rfl, ⟨_, _, rfl, rfl, rfl, rfl⟩⟩⟩⟩, rfl, rfl, rfl, by decide, rfl, fun h => absurd h (by decide)⟩,
   ⟨.int .u64 0, Tryz.underlying216, by kernel_rfl, fun W ok R => by simp [Rel0, lift, AV.isAgg, X], rfl, rfl, rfl, by decide, rfl, fun h => absurd h (by decide)⟩,
   trivial⟩
end S
end Go.RX
