/- What a caller's input holds, for the laws' guards. -/
import Derived.Test.YtandibmpaamfbaaQc
import Derived.Test.YtandibmpaamfbaaSe
import Derived.SizedLaws
set_option linter.unusedVariables false
set_option linter.unusedSimpArgs false
namespace Go.RX
open S

theorem Wd_wf {n : Int} (h : (Lit.int .u64 n).wf = true) : Wd n := by
  have h : (decide ((0 : Int) ≤ n) && decide (n ≤ 18446744073709551615)) = true := h
  rw [Bool.and_eq_true, decide_eq_true_eq, decide_eq_true_eq] at h
  unfold Wd
  omega
theorem I64_wf {n : Int} (h : (Lit.int .i64 n).wf = true) : I64 n := by
  have h : (decide ((-9223372036854775808 : Int) ≤ n) && decide (n ≤ 9223372036854775807)) = true := h
  rw [Bool.and_eq_true, decide_eq_true_eq, decide_eq_true_eq] at h
  unfold I64
  omega
theorem W64_wf {l : List Int} (h : ∀ n ∈ l, (Lit.int .u64 n).wf = true) : W64 l := fun n hn => Wd_wf (h n hn)
theorem rows_wf {W : World} {a : Option Addr} {len cap : Nat} {l : List (List Int)} (h : Rows2 .u64 W a len cap l) : ∀ r ∈ rows (l.map (AV.ints .u64)), W64 r := by
  intro r hr
  simp only [rows, List.map_map, List.mem_map] at hr
  obtain ⟨s, hs, rfl⟩ := hr
  exact W64_wf (h.2.2.1 s hs)
theorem rows_wt (l : List (List Int)) : ∀ x ∈ l.map (AV.ints .u64), wt (.sl (.int .u64)) x = true := by
  intro x hx
  rw [List.mem_map] at hx
  obtain ⟨r, _, rfl⟩ := hx
  rfl
theorem rel_num {W : World} {ok : Nat → Prop} {R : Nat → Option Loc} (k : IntKind) (n : Int) : Rel0 W ok R (.int k n) (.int k n) := rfl

/-- How long a caller's row may be. -/
theorem sized_row {H : Type} {enc : TypeId × Value → H} {P : Program} {w : World} {base : Nat} {spare : Nat → Bool} {held : Bool} {t e : TypeId} {k : IntKind} {a : Option Addr} {len cap B j fuel : Nat} {d : DataW H} {ps : List MemPlace} {ts : List TypeId} {ds : List (DataW H)}
    (hsz : (DataW.weightsEach P ts ds).all (· ≤ reachBytes) = true) (ht : ts[j]? = some t) (hd : ds[j]? = some d) (hu : P.underlying t = some (.slice e)) (he : P.underlying e = some (.int k)) (hc : P.cellsOf e = 1) (hB : P.bytesOf e = B)
    (h : DataW.trod enc P w base spare held fuel t [.slice a len cap] = some (d, ps)) : len * B ≤ 140737488351232 := by
  rcases Go.ChangeShapes.open_ints hu he hc h with ⟨h0, _⟩ | ⟨x, l, c, zs, h0, _, hl, _, hz, hx, _, _⟩
  · simp only [List.cons.injEq, and_true, Value.slice.injEq] at h0
    rw [h0.2.1]
    omega
  · simp only [List.cons.injEq, and_true, Value.slice.injEq] at h0
    obtain ⟨_, rfl, _⟩ := h0
    rw [(Prod.mk.inj hx).1] at hd
    have z := sized_slice hsz ht hd hu
    rw [hB] at z
    have hle : len ≤ zs.length := by
      split at hz <;> omega
    have e : (Go.ChangeShapes.lits (H := H) k (zs.take len)).length + (Go.ChangeShapes.lits (H := H) k (zs.drop len)).length = zs.length := by
      simp [Go.ChangeShapes.lits]
      omega
    rw [e] at z
    exact Nat.le_trans (Nat.mul_le_mul_right _ hle) z
theorem I64s_wf {l : List Int} {n : Nat} (h : ∀ x ∈ l, (Lit.int .i64 x).wf = true) (hl : l.length = n) (hn : n * 8 ≤ 140737488351232) : (∀ x ∈ l, I64 x) ∧ l.length ≤ 17592186043904 := ⟨fun x hx => I64_wf (h x hx), by omega⟩
theorem L_wf {l : List Int} {n : Nat} (h : ∀ x ∈ l, (Lit.int .u64 x).wf = true) (hl : l.length = n) (hn : n * 8 ≤ 140737488351232) : L l := ⟨W64_wf h, by omega⟩
end Go.RX
