/- What a caller's input holds, for the laws' guards. -/
import Derived.Test.YtandibmpaamfbaaRy
import Derived.Test.YtandibmpaamfbaaSd
set_option linter.unusedVariables false
set_option linter.unusedSimpArgs false
namespace Go.RX
open S

theorem Wd_wf {n : Int} (h : (Lit.int .u64 n).wf = true) : Wd n := by
  have h : (decide ((0 : Int) ≤ n) && decide (n ≤ 18446744073709551615)) = true := h
  rw [Bool.and_eq_true, decide_eq_true_eq, decide_eq_true_eq] at h
  unfold Wd
  omega
theorem I64_wf {n : Int} (h : (Lit.int .i64 n).wf = true) : I64 n := by
  have h : (decide ((-9223372036854775808 : Int) ≤ n) && decide (n ≤ 9223372036854775807)) = true := h
  rw [Bool.and_eq_true, decide_eq_true_eq, decide_eq_true_eq] at h
  unfold I64
  omega
theorem W64_wf {l : List Int} (h : ∀ n ∈ l, (Lit.int .u64 n).wf = true) : W64 l := fun n hn => Wd_wf (h n hn)
theorem rows_wf {W : World} {a : Option Addr} {len cap : Nat} {l : List (List Int)} (h : Rows2 .u64 W a len cap l) : ∀ r ∈ rows (l.map (AV.ints .u64)), W64 r := by
  intro r hr
  simp only [rows, List.map_map, List.mem_map] at hr
  obtain ⟨s, hs, rfl⟩ := hr
  exact W64_wf (h.2.2.1 s hs)
theorem rows_wt (l : List (List Int)) : ∀ x ∈ l.map (AV.ints .u64), wt (.sl (.int .u64)) x = true := by
  intro x hx
  rw [List.mem_map] at hx
  obtain ⟨r, _, rfl⟩ := hx
  rfl
theorem rel_num {W : World} {ok : Nat → Prop} {R : Nat → Option Loc} (k : IntKind) (n : Int) : Rel0 W ok R (.int k n) (.int k n) := rfl
end Go.RX
