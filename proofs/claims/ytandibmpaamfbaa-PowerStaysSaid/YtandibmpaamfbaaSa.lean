/- The program's types. -/
import Derived.Test.YtandibmpaamfbaaQc
import Derived.Test.YtandibmpaamfbaaProg
set_option linter.unusedVariables false
set_option linter.unusedSimpArgs false
namespace Go.RX

def TysOk (P : Program) : List (Nat × TyD) → Prop
  | [] => True
  | (n, d) :: r => (∃ z, TyOk P n d z) ∧ TysOk P r
theorem tabOf_ok {P : Program} : ∀ {l : List (Nat × TyD)}, TysOk P l → TabOk P (tabOf l)
  | [], _, t, d, h => by simp [tabOf] at h
  | (n, e) :: r, ⟨h1, h2⟩, t, d, h => by
    simp only [tabOf] at h
    cases hb : Nat.beq n t
    · rw [hb, cond_false] at h
      exact tabOf_ok h2 t d h
    · rw [hb, cond_true, Option.some.injEq] at h
      have := Nat.eq_of_beq_eq_true hb
      subst this h
      exact h1
namespace S
open Go.Proofs

def tys : List (Nat × TyD) := [
  (36, ⟨.int .u64, 1, 8, .int .u64, .int .u64 0⟩),
  (3, ⟨.int .i64, 1, 8, .int .i64, .int .i64 0⟩),
  (4, ⟨.bool, 1, 1, .bool, .bool false⟩),
  (22, ⟨.slice 36, 1, 24, .sl (.int .u64), .nilS⟩),
  (28, ⟨.int .i64, 1, 8, .int .i64, .int .i64 0⟩),
  (9, ⟨.str, 1, 16, .str, .str ⟨#[]⟩⟩),
  (5, ⟨.int .u8, 1, 1, .int .u8, .int .u8 0⟩),
  (60, ⟨.int .u64, 1, 8, .int .u64, .int .u64 0⟩),
  (23, ⟨.slice 22, 1, 24, .sl (.sl (.int .u64)), .nilS⟩),
  (93, ⟨.slice 3, 1, 24, .sl (.int .i64), .nilS⟩),
  (103, ⟨.arr 2 36, 2, 16, .st [.int .u64, .int .u64], .agg [.int .u64 0, .int .u64 0]⟩),
  (104, ⟨.arr 4 36, 4, 32, .st [.int .u64, .int .u64, .int .u64, .int .u64], .agg [.int .u64 0, .int .u64 0, .int .u64 0, .int .u64 0]⟩),
  (118, ⟨.arr 2 36, 2, 16, .st [.int .u64, .int .u64], .agg [.int .u64 0, .int .u64 0]⟩),
  (120, ⟨.st [(118, 0), (3, 2), (4, 3)], 4, 32, .st [.int .u64, .int .u64, .int .i64, .bool], .agg [.int .u64 0, .int .u64 0, .int .i64 0, .bool false]⟩),
  (131, ⟨.st [(129, 0)], 1, 8, .st [.opq 1], .agg [.nilF]⟩),
  (132, ⟨.arr 2 131, 2, 16, .st [.opq 1, .opq 1], .agg [.nilF, .nilF]⟩),
  (129, ⟨.fn, 1, 8, .opq 1, .nilF⟩),
  (139, ⟨.slice 5, 1, 24, .sl (.int .u8), .nilS⟩)]
def tab : Tab := tabOf tys

theorem hm : Try.prog.follows .mixedOrders = true := by kernel_rfl

theorem tab_ok : TabOk Try.prog tab := tabOf_ok
  ⟨⟨.int .u64 0, Try.underlying36, by kernel_rfl, fun W ok R => by simp [Rel0, lift, AV.isAgg, X], rfl, rfl, rfl, by decide, rfl⟩,
   ⟨.int .i64 0, Try.underlying3, by kernel_rfl, fun W ok R => by simp [Rel0, lift, AV.isAgg, X], rfl, rfl, rfl, by decide, rfl⟩,
   ⟨.bool false, Try.underlying4, by kernel_rfl, fun W ok R => by simp [Rel0, lift, AV.isAgg, X], rfl, rfl, rfl, by decide, rfl⟩,
   ⟨.slice none 0 0, Try.underlying22, by kernel_rfl, fun W ok R => by simp [Rel0, lift, AV.isAgg, X], rfl, rfl, rfl, by decide, rfl⟩,
   ⟨.int .i64 0, Try.underlying28, by kernel_rfl, fun W ok R => by simp [Rel0, lift, AV.isAgg, X], rfl, rfl, rfl, by decide, rfl⟩,
   ⟨.string ⟨#[]⟩, Try.underlying9, by kernel_rfl, fun W ok R => by simp [Rel0, lift, AV.isAgg, X], rfl, rfl, rfl, by decide, rfl⟩,
   ⟨.int .u8 0, Try.underlying5, by kernel_rfl, fun W ok R => by simp [Rel0, lift, AV.isAgg, X], rfl, rfl, rfl, by decide, rfl⟩,
   ⟨.int .u64 0, Try.underlying60, by kernel_rfl, fun W ok R => by simp [Rel0, lift, AV.isAgg, X], rfl, rfl, rfl, by decide, rfl⟩,
   ⟨.slice none 0 0, Try.underlying23, by kernel_rfl, fun W ok R => by simp [Rel0, lift, AV.isAgg, X], rfl, rfl, rfl, by decide, rfl⟩,
   ⟨.slice none 0 0, Try.underlying93, by kernel_rfl, fun W ok R => by simp [Rel0, lift, AV.isAgg, X], rfl, rfl, rfl, by decide, rfl⟩,
   ⟨.agg #[.int .u64 0, .int .u64 0], Try.underlying103, by kernel_rfl, fun W ok R => ⟨_, rfl, ⟨_, _, rfl, rfl, rfl, ⟨_, _, rfl, rfl, rfl, rfl⟩⟩⟩, rfl, rfl, rfl, by decide, rfl⟩,
   ⟨.agg #[.int .u64 0, .int .u64 0, .int .u64 0, .int .u64 0], Try.underlying104, by kernel_rfl, fun W ok R => ⟨_, rfl, ⟨_, _, rfl, rfl, rfl, ⟨_, _, rfl, rfl, rfl, ⟨_, _, rfl, rfl, rfl, ⟨_, _, rfl, rfl, rfl, rfl⟩⟩⟩⟩⟩, rfl, rfl, rfl, by decide, rfl⟩,
   ⟨.agg #[.int .u64 0, .int .u64 0], Try.underlying118, by kernel_rfl, fun W ok R => ⟨_, rfl, ⟨_, _, rfl, rfl, rfl, ⟨_, _, rfl, rfl, rfl, rfl⟩⟩⟩, rfl, rfl, rfl, by decide, rfl⟩,
   ⟨.agg #[.int .u64 0, .int .u64 0, .int .i64 0, .bool false], ⟨_, Try.underlying120, rfl⟩, by kernel_rfl, fun W ok R => ⟨_, rfl, ⟨_, _, rfl, rfl, rfl, ⟨_, _, rfl, rfl, rfl, ⟨_, _, rfl, rfl, rfl, ⟨_, _, rfl, rfl, rfl, rfl⟩⟩⟩⟩⟩, rfl, rfl, rfl, by decide, rfl⟩,
   ⟨.agg #[.nilFunc], ⟨_, Try.underlying131, rfl⟩, by kernel_rfl, fun W ok R => ⟨_, rfl, ⟨_, _, rfl, rfl, rfl, rfl⟩⟩, rfl, rfl, rfl, by decide, rfl⟩,
   ⟨.agg #[.nilFunc, .nilFunc], Try.underlying132, by kernel_rfl, fun W ok R => ⟨_, rfl, ⟨_, _, rfl, rfl, rfl, ⟨_, _, rfl, rfl, rfl, rfl⟩⟩⟩, rfl, rfl, rfl, by decide, rfl⟩,
   ⟨.nilFunc, ⟨_, _, _, Try.underlying129⟩, by kernel_rfl, fun W ok R => by simp [Rel0, lift, AV.isAgg, X], rfl, rfl, rfl, by decide, rfl⟩,
   ⟨.slice none 0 0, Try.underlying139, by kernel_rfl, fun W ok R => by simp [Rel0, lift, AV.isAgg, X], rfl, rfl, rfl, by decide, rfl⟩,
   trivial⟩
end S
end Go.RX
