/- The program's types. -/
import Derived.Test.YtciapojlnhiggaaGreatZQc
import Derived.Test.YtciapojlnhiggaaGreatProg
set_option linter.unusedVariables false
set_option linter.unusedSimpArgs false
namespace Go.RX
def TysOk (P : Program) : List (Nat × TyD) → Prop
  | [] => True
  | (n, d) :: r => (∃ z, TyOk P n d z) ∧ TysOk P r
theorem tabOf_ok {P : Program} : ∀ {l : List (Nat × TyD)}, TysOk P l → TabOk P (tabOf l)
  | [], _, t, d, h => by simp [tabOf] at h
  | (n, e) :: r, ⟨h1, h2⟩, t, d, h => by
    simp only [tabOf] at h
    cases hb : Nat.beq n t
    · rw [hb, cond_false] at h
      exact tabOf_ok h2 t d h
    · rw [hb, cond_true, Option.some.injEq] at h
      have := Nat.eq_of_beq_eq_true hb
      subst this h
      exact h1
namespace S
open Go.Proofs
def tys : List (Nat × TyD) := [
  (22, ⟨.int .u64, 1, 8, .int .u64, .int .u64 0⟩),
  (3, ⟨.int .i64, 1, 8, .int .i64, .int .i64 0⟩),
  (4, ⟨.bool, 1, 1, .bool, .bool false⟩),
  (32, ⟨.slice 22, 1, 24, .sl (.int .u64), .nilS⟩),
  (27, ⟨.int .i64, 1, 8, .int .i64, .int .i64 0⟩),
  (2, ⟨.int .i64, 1, 8, .int .i64, .int .i64 0⟩),
  (122, ⟨.int .u64, 1, 8, .int .u64, .int .u64 0⟩),
  (34, ⟨.st [(4, 0), (32, 1), (32, 2)], 3, 56, .st [.bool, .sl (.int .u64), .sl (.int .u64)], .agg [.bool false, .nilS, .nilS]⟩),
  (76, ⟨.slice 34, 1, 24, .sl (.st [.bool, .sl (.int .u64), .sl (.int .u64)]), .nilS⟩),
  (24, ⟨.st [(22, 0), (22, 1)], 2, 16, .st [.int .u64, .int .u64], .agg [.int .u64 0, .int .u64 0]⟩),
  (50, ⟨.slice 24, 1, 24, .sl (.st [.int .u64, .int .u64]), .nilS⟩),
  (64, ⟨.arr 2 34, 6, 112, .st [.bool, .sl (.int .u64), .sl (.int .u64), .bool, .sl (.int .u64), .sl (.int .u64)], .agg [.bool false, .nilS, .nilS, .bool false, .nilS, .nilS]⟩),
  (58, ⟨.slice 64, 1, 24, .sl (.st [.bool, .sl (.int .u64), .sl (.int .u64), .bool, .sl (.int .u64), .sl (.int .u64)]), .nilS⟩),
  (78, ⟨.st [(4, 0), (76, 1)], 2, 32, .st [.bool, .sl (.st [.bool, .sl (.int .u64), .sl (.int .u64)])], .agg [.bool false, .nilS]⟩),
  (109, ⟨.slice 78, 1, 24, .sl (.st [.bool, .sl (.st [.bool, .sl (.int .u64), .sl (.int .u64)])]), .nilS⟩),
  (101, ⟨.fn, 1, 8, .opq 1, .nilF⟩),
  (26, ⟨.st [(24, 0), (24, 2), (24, 4), (24, 6)], 8, 64, .st [.int .u64, .int .u64, .int .u64, .int .u64, .int .u64, .int .u64, .int .u64, .int .u64], .agg [.int .u64 0, .int .u64 0, .int .u64 0, .int .u64 0, .int .u64 0, .int .u64 0, .int .u64 0, .int .u64 0]⟩),
  (153, ⟨.arr 2 22, 2, 16, .st [.int .u64, .int .u64], .agg [.int .u64 0, .int .u64 0]⟩),
  (154, ⟨.arr 4 22, 4, 32, .st [.int .u64, .int .u64, .int .u64, .int .u64], .agg [.int .u64 0, .int .u64 0, .int .u64 0, .int .u64 0]⟩),
  (67, ⟨.st [(4, 0), (32, 1)], 2, 32, .st [.bool, .sl (.int .u64)], .agg [.bool false, .nilS]⟩),
  (81, ⟨.st [(67, 0), (67, 2)], 4, 64, .st [.bool, .sl (.int .u64), .bool, .sl (.int .u64)], .agg [.bool false, .nilS, .bool false, .nilS]⟩)]
def tab : Tab := tabOf tys
theorem hm : Tryz.prog.follows .mixedOrders = true := by kernel_rfl
theorem tab_ok : TabOk Tryz.prog tab := tabOf_ok
  ⟨⟨.int .u64 0, Tryz.underlying22, by kernel_rfl, fun W ok R => by simp [Rel0, lift, AV.isAgg, X], rfl, rfl, rfl, by decide, rfl⟩,
   ⟨.int .i64 0, Tryz.underlying3, by kernel_rfl, fun W ok R => by simp [Rel0, lift, AV.isAgg, X], rfl, rfl, rfl, by decide, rfl⟩,
   ⟨.bool false, Tryz.underlying4, by kernel_rfl, fun W ok R => by simp [Rel0, lift, AV.isAgg, X], rfl, rfl, rfl, by decide, rfl⟩,
   ⟨.slice none 0 0, Tryz.underlying32, by kernel_rfl, fun W ok R => by simp [Rel0, lift, AV.isAgg, X], rfl, rfl, rfl, by decide, rfl⟩,
   ⟨.int .i64 0, Tryz.underlying27, by kernel_rfl, fun W ok R => by simp [Rel0, lift, AV.isAgg, X], rfl, rfl, rfl, by decide, rfl⟩,
   ⟨.int .i64 0, Tryz.underlying2, by kernel_rfl, fun W ok R => by simp [Rel0, lift, AV.isAgg, X], rfl, rfl, rfl, by decide, rfl⟩,
   ⟨.int .u64 0, Tryz.underlying122, by kernel_rfl, fun W ok R => by simp [Rel0, lift, AV.isAgg, X], rfl, rfl, rfl, by decide, rfl⟩,
   ⟨.agg #[.bool false, .slice none 0 0, .slice none 0 0], ⟨_, Tryz.underlying34, rfl⟩, by kernel_rfl, fun W ok R => ⟨_, rfl, ⟨_, _, rfl, rfl, rfl, ⟨_, _, rfl, rfl, rfl, ⟨_, _, rfl, rfl, rfl, rfl⟩⟩⟩⟩, rfl, rfl, rfl, by decide, rfl⟩,
   ⟨.slice none 0 0, Tryz.underlying76, by kernel_rfl, fun W ok R => by simp [Rel0, lift, AV.isAgg, X], rfl, rfl, rfl, by decide, rfl⟩,
   ⟨.agg #[.int .u64 0, .int .u64 0], ⟨_, Tryz.underlying24, rfl⟩, by kernel_rfl, fun W ok R => ⟨_, rfl, ⟨_, _, rfl, rfl, rfl, ⟨_, _, rfl, rfl, rfl, rfl⟩⟩⟩, rfl, rfl, rfl, by decide, rfl⟩,
   ⟨.slice none 0 0, Tryz.underlying50, by kernel_rfl, fun W ok R => by simp [Rel0, lift, AV.isAgg, X], rfl, rfl, rfl, by decide, rfl⟩,
   ⟨.agg #[.bool false, .slice none 0 0, .slice none 0 0, .bool false, .slice none 0 0, .slice none 0 0], Tryz.underlying64, by kernel_rfl, fun W ok R => ⟨_, rfl, ⟨_, _, rfl, rfl, rfl, ⟨_, _, rfl, rfl, rfl, ⟨_, _, rfl, rfl, rfl, ⟨_, _, rfl, rfl, rfl, ⟨_, _, rfl, rfl, rfl, ⟨_, _, rfl, rfl, rfl, rfl⟩⟩⟩⟩⟩⟩⟩, rfl, rfl, rfl, by decide, rfl⟩,
   ⟨.slice none 0 0, Tryz.underlying58, by kernel_rfl, fun W ok R => by simp [Rel0, lift, AV.isAgg, X], rfl, rfl, rfl, by decide, rfl⟩,
   ⟨.agg #[.bool false, .slice none 0 0], ⟨_, Tryz.underlying78, rfl⟩, by kernel_rfl, fun W ok R => ⟨_, rfl, ⟨_, _, rfl, rfl, rfl, ⟨_, _, rfl, rfl, rfl, rfl⟩⟩⟩, rfl, rfl, rfl, by decide, rfl⟩,
   ⟨.slice none 0 0, Tryz.underlying109, by kernel_rfl, fun W ok R => by simp [Rel0, lift, AV.isAgg, X], rfl, rfl, rfl, by decide, rfl⟩,
   ⟨.nilFunc, ⟨_, _, _, Tryz.underlying101⟩, by kernel_rfl, fun W ok R => by simp [Rel0, lift, AV.isAgg, X], rfl, rfl, rfl, by decide, rfl⟩,
   ⟨.agg #[.int .u64 0, .int .u64 0, .int .u64 0, .int .u64 0, .int .u64 0, .int .u64 0, .int .u64 0, .int .u64 0], ⟨_, Tryz.underlying26, rfl⟩, by kernel_rfl, fun W ok R => ⟨_, rfl, ⟨_, _, rfl, rfl, rfl, ⟨_, _, rfl, rfl, rfl, ⟨_, _, rfl, rfl, rfl, ⟨_, _, rfl, rfl, rfl, ⟨_, _, rfl, rfl, rfl, ⟨_, _, rfl, rfl, rfl, ⟨_, _, rfl, rfl, rfl, ⟨_, _, rfl, rfl, rfl, rfl⟩⟩⟩⟩⟩⟩⟩⟩⟩, rfl, rfl, rfl, by decide, rfl⟩,
   ⟨.agg #[.int .u64 0, .int .u64 0], Tryz.underlying153, by kernel_rfl, fun W ok R => ⟨_, rfl, ⟨_, _, rfl, rfl, rfl, ⟨_, _, rfl, rfl, rfl, rfl⟩⟩⟩, rfl, rfl, rfl, by decide, rfl⟩,
   ⟨.agg #[.int .u64 0, .int .u64 0, .int .u64 0, .int .u64 0], Tryz.underlying154, by kernel_rfl, fun W ok R => ⟨_, rfl, ⟨_, _, rfl, rfl, rfl, ⟨_, _, rfl, rfl, rfl, ⟨_, _, rfl, rfl, rfl, ⟨_, _, rfl, rfl, rfl, rfl⟩⟩⟩⟩⟩, rfl, rfl, rfl, by decide, rfl⟩,
   ⟨.agg #[.bool false, .slice none 0 0], ⟨_, Tryz.underlying67, rfl⟩, by kernel_rfl, fun W ok R => ⟨_, rfl, ⟨_, _, rfl, rfl, rfl, ⟨_, _, rfl, rfl, rfl, rfl⟩⟩⟩, rfl, rfl, rfl, by decide, rfl⟩,
   ⟨.agg #[.bool false, .slice none 0 0, .bool false, .slice none 0 0], ⟨_, Tryz.underlying81, rfl⟩, by kernel_rfl, fun W ok R => ⟨_, rfl, ⟨_, _, rfl, rfl, rfl, ⟨_, _, rfl, rfl, rfl, ⟨_, _, rfl, rfl, rfl, ⟨_, _, rfl, rfl, rfl, rfl⟩⟩⟩⟩⟩, rfl, rfl, rfl, by decide, rfl⟩,
   trivial⟩
end S
end Go.RX
