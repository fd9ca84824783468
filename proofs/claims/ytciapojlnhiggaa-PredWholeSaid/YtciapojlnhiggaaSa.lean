/- The program's types. -/
import Derived.Test.YtciapojlnhiggaaQc
import Derived.Test.YtciapojlnhiggaaProg
set_option linter.unusedVariables false
set_option linter.unusedSimpArgs false
namespace Go.RX

def TysOk (P : Program) : List (Nat × TyD) → Prop
  | [] => True
  | (n, d) :: r => (∃ z, TyOk P n d z) ∧ TysOk P r
theorem tabOf_ok {P : Program} : ∀ {l : List (Nat × TyD)}, TysOk P l → TabOk P (tabOf l)
  | [], _, t, d, h => by simp [tabOf] at h
  | (n, e) :: r, ⟨h1, h2⟩, t, d, h => by
    simp only [tabOf] at h
    cases hb : Nat.beq n t
    · rw [hb, cond_false] at h
      exact tabOf_ok h2 t d h
    · rw [hb, cond_true, Option.some.injEq] at h
      have := Nat.eq_of_beq_eq_true hb
      subst this h
      exact h1
namespace S
open Go.Proofs

def tys : List (Nat × TyD) := [
  (22, ⟨.int .u64, 1, 8, .int .u64, .int .u64 0⟩),
  (3, ⟨.int .i64, 1, 8, .int .i64, .int .i64 0⟩),
  (4, ⟨.bool, 1, 1, .bool, .bool false⟩),
  (34, ⟨.slice 22, 1, 24, .sl (.int .u64), .nilS⟩),
  (28, ⟨.int .i64, 1, 8, .int .i64, .int .i64 0⟩),
  (2, ⟨.int .i64, 1, 8, .int .i64, .int .i64 0⟩),
  (41, ⟨.int .u64, 1, 8, .int .u64, .int .u64 0⟩),
  (36, ⟨.st [(4, 0), (34, 1), (34, 2)], 3, 56, .st [.bool, .sl (.int .u64), .sl (.int .u64)], .agg [.bool false, .nilS, .nilS]⟩),
  (75, ⟨.slice 36, 1, 24, .sl (.st [.bool, .sl (.int .u64), .sl (.int .u64)]), .nilS⟩),
  (24, ⟨.st [(22, 0), (22, 1)], 2, 16, .st [.int .u64, .int .u64], .agg [.int .u64 0, .int .u64 0]⟩),
  (56, ⟨.slice 24, 1, 24, .sl (.st [.int .u64, .int .u64]), .nilS⟩),
  (71, ⟨.arr 2 36, 6, 112, .st [.bool, .sl (.int .u64), .sl (.int .u64), .bool, .sl (.int .u64), .sl (.int .u64)], .agg [.bool false, .nilS, .nilS, .bool false, .nilS, .nilS]⟩),
  (66, ⟨.slice 71, 1, 24, .sl (.st [.bool, .sl (.int .u64), .sl (.int .u64), .bool, .sl (.int .u64), .sl (.int .u64)]), .nilS⟩),
  (77, ⟨.st [(4, 0), (75, 1)], 2, 32, .st [.bool, .sl (.st [.bool, .sl (.int .u64), .sl (.int .u64)])], .agg [.bool false, .nilS]⟩),
  (94, ⟨.slice 77, 1, 24, .sl (.st [.bool, .sl (.st [.bool, .sl (.int .u64), .sl (.int .u64)])]), .nilS⟩),
  (45, ⟨.fn, 1, 8, .opq 1, .nilF⟩),
  (26, ⟨.st [(24, 0), (24, 2), (24, 4), (24, 6)], 8, 64, .st [.int .u64, .int .u64, .int .u64, .int .u64, .int .u64, .int .u64, .int .u64, .int .u64], .agg [.int .u64 0, .int .u64 0, .int .u64 0, .int .u64 0, .int .u64 0, .int .u64 0, .int .u64 0, .int .u64 0]⟩),
  (47, ⟨.st [(3, 0), (3, 1)], 2, 16, .st [.int .i64, .int .i64], .agg [.int .i64 0, .int .i64 0]⟩),
  (49, ⟨.st [(47, 0), (47, 2), (47, 4), (47, 6), (3, 8)], 9, 72, .st [.int .i64, .int .i64, .int .i64, .int .i64, .int .i64, .int .i64, .int .i64, .int .i64, .int .i64], .agg [.int .i64 0, .int .i64 0, .int .i64 0, .int .i64 0, .int .i64 0, .int .i64 0, .int .i64 0, .int .i64 0, .int .i64 0]⟩),
  (142, ⟨.arr 2 22, 2, 16, .st [.int .u64, .int .u64], .agg [.int .u64 0, .int .u64 0]⟩),
  (143, ⟨.arr 4 22, 4, 32, .st [.int .u64, .int .u64, .int .u64, .int .u64], .agg [.int .u64 0, .int .u64 0, .int .u64 0, .int .u64 0]⟩)]
def tab : Tab := tabOf tys

theorem hm : Try.prog.follows .mixedOrders = true := by kernel_rfl

theorem tab_ok : TabOk Try.prog tab := tabOf_ok
  ⟨⟨.int .u64 0, Try.underlying22, by kernel_rfl, fun W ok R => by simp [Rel0, lift, AV.isAgg, X], rfl, rfl, rfl, by decide, rfl⟩,
   ⟨.int .i64 0, Try.underlying3, by kernel_rfl, fun W ok R => by simp [Rel0, lift, AV.isAgg, X], rfl, rfl, rfl, by decide, rfl⟩,
   ⟨.bool false, Try.underlying4, by kernel_rfl, fun W ok R => by simp [Rel0, lift, AV.isAgg, X], rfl, rfl, rfl, by decide, rfl⟩,
   ⟨.slice none 0 0, Try.underlying34, by kernel_rfl, fun W ok R => by simp [Rel0, lift, AV.isAgg, X], rfl, rfl, rfl, by decide, rfl⟩,
   ⟨.int .i64 0, Try.underlying28, by kernel_rfl, fun W ok R => by simp [Rel0, lift, AV.isAgg, X], rfl, rfl, rfl, by decide, rfl⟩,
   ⟨.int .i64 0, Try.underlying2, by kernel_rfl, fun W ok R => by simp [Rel0, lift, AV.isAgg, X], rfl, rfl, rfl, by decide, rfl⟩,
   ⟨.int .u64 0, Try.underlying41, by kernel_rfl, fun W ok R => by simp [Rel0, lift, AV.isAgg, X], rfl, rfl, rfl, by decide, rfl⟩,
   ⟨.agg #[.bool false, .slice none 0 0, .slice none 0 0], ⟨_, Try.underlying36, rfl⟩, by kernel_rfl, fun W ok R => ⟨_, rfl, ⟨_, _, rfl, rfl, rfl, ⟨_, _, rfl, rfl, rfl, ⟨_, _, rfl, rfl, rfl, rfl⟩⟩⟩⟩, rfl, rfl, rfl, by decide, rfl⟩,
   ⟨.slice none 0 0, Try.underlying75, by kernel_rfl, fun W ok R => by simp [Rel0, lift, AV.isAgg, X], rfl, rfl, rfl, by decide, rfl⟩,
   ⟨.agg #[.int .u64 0, .int .u64 0], ⟨_, Try.underlying24, rfl⟩, by kernel_rfl, fun W ok R => ⟨_, rfl, ⟨_, _, rfl, rfl, rfl, ⟨_, _, rfl, rfl, rfl, rfl⟩⟩⟩, rfl, rfl, rfl, by decide, rfl⟩,
   ⟨.slice none 0 0, Try.underlying56, by kernel_rfl, fun W ok R => by simp [Rel0, lift, AV.isAgg, X], rfl, rfl, rfl, by decide, rfl⟩,
   ⟨.agg #[.bool false, .slice none 0 0, .slice none 0 0, .bool false, .slice none 0 0, .slice none 0 0], Try.underlying71, by kernel_rfl, fun W ok R => ⟨_, rfl, ⟨_, _, rfl, rfl, rfl, ⟨_, _, rfl, rfl, rfl, ⟨_, _, rfl, rfl, rfl, ⟨_, _, rfl, rfl, rfl, ⟨_, _, rfl, rfl, rfl, ⟨_, _, rfl, rfl, rfl, rfl⟩⟩⟩⟩⟩⟩⟩, rfl, rfl, rfl, by decide, rfl⟩,
   ⟨.slice none 0 0, Try.underlying66, by kernel_rfl, fun W ok R => by simp [Rel0, lift, AV.isAgg, X], rfl, rfl, rfl, by decide, rfl⟩,
   ⟨.agg #[.bool false, .slice none 0 0], ⟨_, Try.underlying77, rfl⟩, by kernel_rfl, fun W ok R => ⟨_, rfl, ⟨_, _, rfl, rfl, rfl, ⟨_, _, rfl, rfl, rfl, rfl⟩⟩⟩, rfl, rfl, rfl, by decide, rfl⟩,
   ⟨.slice none 0 0, Try.underlying94, by kernel_rfl, fun W ok R => by simp [Rel0, lift, AV.isAgg, X], rfl, rfl, rfl, by decide, rfl⟩,
   ⟨.nilFunc, ⟨_, _, _, Try.underlying45⟩, by kernel_rfl, fun W ok R => by simp [Rel0, lift, AV.isAgg, X], rfl, rfl, rfl, by decide, rfl⟩,
   ⟨.agg #[.int .u64 0, .int .u64 0, .int .u64 0, .int .u64 0, .int .u64 0, .int .u64 0, .int .u64 0, .int .u64 0], ⟨_, Try.underlying26, rfl⟩, by kernel_rfl, fun W ok R => ⟨_, rfl, ⟨_, _, rfl, rfl, rfl, ⟨_, _, rfl, rfl, rfl, ⟨_, _, rfl, rfl, rfl, ⟨_, _, rfl, rfl, rfl, ⟨_, _, rfl, rfl, rfl, ⟨_, _, rfl, rfl, rfl, ⟨_, _, rfl, rfl, rfl, ⟨_, _, rfl, rfl, rfl, rfl⟩⟩⟩⟩⟩⟩⟩⟩⟩, rfl, rfl, rfl, by decide, rfl⟩,
   ⟨.agg #[.int .i64 0, .int .i64 0], ⟨_, Try.underlying47, rfl⟩, by kernel_rfl, fun W ok R => ⟨_, rfl, ⟨_, _, rfl, rfl, rfl, ⟨_, _, rfl, rfl, rfl, rfl⟩⟩⟩, rfl, rfl, rfl, by decide, rfl⟩,
   ⟨.agg #[.int .i64 0, .int .i64 0, .int .i64 0, .int .i64 0, .int .i64 0, .int .i64 0, .int .i64 0, .int .i64 0, .int .i64 0], ⟨_, Try.underlying49, rfl⟩, by kernel_rfl, fun W ok R => ⟨_, rfl, ⟨_, _, rfl, rfl, rfl, ⟨_, _, rfl, rfl, rfl, ⟨_, _, rfl, rfl, rfl, ⟨_, _, rfl, rfl, rfl, ⟨_, _, rfl, rfl, rfl, ⟨_, _, rfl, rfl, rfl, ⟨_, _, rfl, rfl, rfl, ⟨_, _, rfl, rfl, rfl, ⟨_, _, rfl, rfl, rfl, rfl⟩⟩⟩⟩⟩⟩⟩⟩⟩⟩, rfl, rfl, rfl, by decide, rfl⟩,
   ⟨.agg #[.int .u64 0, .int .u64 0], Try.underlying142, by kernel_rfl, fun W ok R => ⟨_, rfl, ⟨_, _, rfl, rfl, rfl, ⟨_, _, rfl, rfl, rfl, rfl⟩⟩⟩, rfl, rfl, rfl, by decide, rfl⟩,
   ⟨.agg #[.int .u64 0, .int .u64 0, .int .u64 0, .int .u64 0], Try.underlying143, by kernel_rfl, fun W ok R => ⟨_, rfl, ⟨_, _, rfl, rfl, rfl, ⟨_, _, rfl, rfl, rfl, ⟨_, _, rfl, rfl, rfl, ⟨_, _, rfl, rfl, rfl, rfl⟩⟩⟩⟩⟩, rfl, rfl, rfl, by decide, rfl⟩,
   trivial⟩
end S
end Go.RX
