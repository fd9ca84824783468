/- Laws: a caller's rows as they are told; a law's run. -/
import Derived.Test.YtandibmpaamfbaaRx
import Derived.ChangeSlices
import Derived.LaidMore
set_option linter.unusedVariables false
set_option linter.unusedSimpArgs false
namespace Go.RX
open Go.ChangeShapes Go.RowKit

theorem cell_lt {W : World} {p : Addr} {v : Value} (h : W.cell? p = some v) : p.block < W.heap.size := by
  unfold World.cell? at h
  rcases Nat.lt_or_ge p.block W.heap.size with h1 | h1
  · exact h1
  · rw [Array.getElem?_eq_none h1] at h
    simp at h

/-- A caller's row: what stands in it, spare room too. -/
def Row (k : IntKind) (W : World) (a : Option Addr) (len cap : Nat) (zs : List Int) : Prop :=
  (a = none ∧ len = 0 ∧ cap = 0 ∧ zs = []) ∨
  ∃ x, a = some x ∧ len ≤ cap ∧ cap ≤ maxLen ∧ len ≤ zs.length ∧ (∀ i, i < zs.length → W.cell? (x.add i) = some (.int k (zs.getD i 0))) ∧ ∀ n ∈ zs, (Lit.int k n).wf = true

theorem Row.len {k : IntKind} {W : World} {a : Option Addr} {len cap : Nat} {zs : List Int} (h : Row k W a len cap zs) : (zs.take len).length = len := by
  rcases h with ⟨_, rfl, _, rfl⟩ | ⟨x, _, _, _, h, _⟩
  · rfl
  · rw [List.length_take]
    omega

theorem Row.wf {k : IntKind} {W : World} {a : Option Addr} {len cap : Nat} {zs : List Int} (h : Row k W a len cap zs) : ∀ n ∈ zs.take len, (Lit.int k n).wf = true := by
  rcases h with ⟨_, rfl, _, rfl⟩ | ⟨x, _, _, _, _, _, h⟩
  · simp
  · exact fun n hn => h n (List.mem_of_mem_take hn)

theorem Row.rel {k : IntKind} {W : World} {a : Option Addr} {len cap : Nat} {zs : List Int} (h : Row k W a len cap zs) : Rel0 W (fun g => g < W.heap.size) noLoc (.ints k (zs.take len)) (.slice a len cap) := by
  have hl := h.len
  rcases h with ⟨rfl, rfl, rfl, rfl⟩ | ⟨x, rfl, h1, h2, h3, h4, h5⟩
  · refine ⟨none, 0, by simp, by simp, .inl rfl⟩
  · refine ⟨some x, cap, by rw [hl], by rw [hl]; exact h1, ?_⟩
    rcases Nat.eq_zero_or_pos len with h0 | h0
    · left
      rw [h0]; rfl
    · right
      have hb : ∀ i, (x.add i).block = x.block := by intro i; unfold Addr.add; split <;> rfl
      refine ⟨x, rfl, ?_, ?_⟩
      · have := cell_lt (h4 0 (by omega))
        rwa [hb] at this
      · intro j u hu
        rw [List.getElem?_map, Option.map_eq_some_iff] at hu
        obtain ⟨n, hn, rfl⟩ := hu
        rw [List.getElem?_take] at hn
        split at hn
        · rename_i hj
          have hlt : j < zs.length := by omega
          have := h4 j hlt
          rw [List.getD_eq_getElem?_getD, hn] at this
          exact this
        · simp at hn

section
variable {H : Type} {enc : TypeId × Value → H} {P : Program} {w : World} {base : Nat} {spare : Nat → Bool} {held : Bool}

theorem Row.of {t e : TypeId} {k : IntKind} {fuel : Nat} {v : Value} {x : DataW H × List MemPlace} (ht : P.underlying t = some (.slice e)) (he : P.underlying e = some (.int k)) (hc : P.cellsOf e = 1) (h : DataW.trod enc P w base spare held fuel t [v] = some x) :
    ∃ a len cap zs, v = .slice a len cap ∧ Row k w a len cap zs := by
  rcases open_ints ht he hc h with ⟨h0, _⟩ | ⟨a, len, cap, zs, hcs, _, hl, hm, hz, _, hcell, hwz⟩
  · simp only [List.cons.injEq, and_true] at h0
    exact ⟨none, 0, 0, [], h0, .inl ⟨rfl, rfl, rfl, rfl⟩⟩
  · simp only [List.cons.injEq, and_true] at hcs
    refine ⟨some a, len, cap, zs, hcs, .inr ⟨a, rfl, hl, hm, ?_, hcell, hwz⟩⟩
    split at hz <;> omega

/-- A caller's row of rows. -/
def Rows2 (k : IntKind) (W : World) (a : Option Addr) (len cap : Nat) (l : List (List Int)) : Prop :=
  l.length = len ∧ len ≤ cap ∧ (∀ r ∈ l, ∀ n ∈ r, (Lit.int k n).wf = true) ∧ (l = [] ∨ ∃ ad ds, a = some ad ∧ ad.block < W.heap.size ∧ At W ad ds ∧ ds.length = l.length ∧ C W (fun g => g < W.heap.size) noLoc 1 (l.map (.ints k)) ds)

theorem Rows2.rel {k : IntKind} {W : World} {a : Option Addr} {len cap : Nat} {l : List (List Int)} (h : Rows2 k W a len cap l) : Rel0 W (fun g => g < W.heap.size) noLoc (.list (.sl (.int k)) (l.map (.ints k))) (.slice a len cap) := by
  obtain ⟨h1, h2, h3, h4⟩ := h
  refine ⟨a, cap, by rw [List.length_map, h1], by rw [List.length_map, h1]; exact h2, ?_, ?_⟩
  · intro x hx
    rw [List.mem_map] at hx
    obtain ⟨r, _, rfl⟩ := hx
    cases k <;> rfl
  · rcases h4 with rfl | ⟨ad, ds, rfl, h5, h6, h7, h8⟩
    · exact .inl rfl
    · refine .inr ⟨ad, ds, rfl, h5, h6, ?_, h8⟩
      rw [h7, List.length_map]
      simp [ETy.sz]

theorem C_of_each {k : IntKind} {W : World} {ok : Nat → Prop} : ∀ (l : List (List Int)) (ds : List Value), l.length = ds.length → (∀ (i : Nat) (r : List Int) (v : Value), l[i]? = some r → ds[i]? = some v → Rel0 W ok noLoc (.ints k r) v) → C W ok noLoc 1 (l.map (.ints k)) ds
  | [], [], _, _ => rfl
  | r :: l, v :: ds, hl, h => ⟨[v], ds, rfl, rfl, h 0 r v rfl rfl, C_of_each l ds (by simpa using hl) fun i r' v' hr hv => h (i + 1) r' v' (by simpa using hr) (by simpa using hv)⟩
  | [], _ :: _, hl, _ => by simp at hl
  | _ :: _, [], hl, _ => by simp at hl

theorem Rows2.of {t t2 e : TypeId} {k : IntKind} {fuel : Nat} {v : Value} {x : DataW H × List MemPlace} (ht : P.underlying t = some (.slice t2)) (hc2 : P.cellsOf t2 = 1) (ht2 : P.underlying t2 = some (.slice e)) (he : P.underlying e = some (.int k)) (hc : P.cellsOf e = 1) (h : DataW.trod enc P w base spare held fuel t [v] = some x) :
    ∃ a len cap l, v = .slice a len cap ∧ Rows2 k w a len cap l := by
  rcases DataW.trod_slice ht h with ⟨h0, _⟩ | ⟨a, len, cap, elems, rest, n, _, hcs, hx, _, hl, _, hlen, hel, _⟩
  · simp only [List.cons.injEq, and_true] at h0
    exact ⟨none, 0, 0, [], h0, rfl, Nat.le_refl _, by simp, .inl rfl⟩
  · simp only [List.cons.injEq, and_true] at hcs
    have each : ∀ i, i < len → ∃ v b m c zs, w.cell? (a.add i) = some v ∧ v = .slice b m c ∧ Row k w b m c zs := by
      intro i hi
      have hE := hel i hi
      rw [hc2, Nat.mul_one] at hE
      cases hy : elems[i]? with
      | none =>
        have := List.getElem?_eq_none_iff.1 hy
        omega
      | some y =>
        rw [hy, Option.bind_eq_some_iff] at hE
        obtain ⟨c1, hc1, hy1⟩ := hE
        have e0 : (a.add i).add 0 = a.add i := by simp [Addr.add]
        have : ∃ c, c1 = [c] ∧ w.cell? (a.add i) = some c := by
          unfold World.cells? at hc1
          split at hc1
          · simp only [List.range_succ, List.range_zero, List.nil_append, List.mapM_cons, List.mapM_nil, e0] at hc1
            cases hcc : w.cell? (a.add i) with
            | none => simp [hcc] at hc1
            | some c => simp [hcc] at hc1; exact ⟨c, hc1.symm, rfl⟩
          · cases hc1
        obtain ⟨c, rfl, hcell⟩ := this
        obtain ⟨b, m, cp, zs, hv, hr⟩ := Row.of ht2 he hc hy1
        exact ⟨c, b, m, cp, zs, hcell, hv, hr⟩
    have build : ∀ m, m ≤ len → ∃ (l : List (List Int)) (ds : List Value), l.length = m ∧ ds.length = m ∧ (∀ r ∈ l, ∀ n ∈ r, (Lit.int k n).wf = true) ∧ (∀ (i : Nat) (r : List Int) (v : Value), l[i]? = some r → ds[i]? = some v → Rel0 w (fun g => g < w.heap.size) noLoc (.ints k r) v) ∧ (∀ (i : Nat) (v : Value), ds[i]? = some v → w.cell? (a.add i) = some v) := by
      intro m
      induction m with
      | zero => exact fun _ => ⟨[], [], rfl, rfl, by simp, by simp, by simp⟩
      | succ m ih =>
        intro hm
        obtain ⟨l, ds, h1, h2, h3, h4, h5⟩ := ih (by omega)
        obtain ⟨v, b, q, c, zs, hcell, rfl, hr⟩ := each m (by omega)
        refine ⟨l ++ [zs.take q], ds ++ [.slice b q c], by simp [h1], by simp [h2], ?_, ?_, ?_⟩
        · intro r hr'
          rcases List.mem_append.1 hr' with h | h
          · exact h3 r h
          · simp only [List.mem_singleton] at h
            subst h
            exact hr.wf
        · intro i r v hr' hv
          rcases Nat.lt_or_ge i m with hi | hi
          · rw [List.getElem?_append_left (by omega)] at hr' hv
            exact h4 i r v hr' hv
          · have : i = m := by
              have := (List.getElem?_eq_some_iff.1 hr').1
              simp [h1] at this
              omega
            subst this
            rw [List.getElem?_append_right (by omega), h1] at hr'
            rw [List.getElem?_append_right (by omega), h2] at hv
            simp at hr' hv
            subst hr' hv
            exact hr.rel
        · intro i v hv
          rcases Nat.lt_or_ge i m with hi | hi
          · rw [List.getElem?_append_left (by omega)] at hv
            exact h5 i v hv
          · have : i = m := by
              have := (List.getElem?_eq_some_iff.1 hv).1
              simp [h2] at this
              omega
            subst this
            rw [List.getElem?_append_right (by omega), h2] at hv
            simp at hv
            subst hv
            exact hcell
    obtain ⟨l, ds, h1, h2, h3, h4, h5⟩ := build len (Nat.le_refl _)
    refine ⟨some a, len, cap, l, hcs, h1, hl, h3, ?_⟩
    rcases Nat.eq_zero_or_pos len with h0 | h0
    · left
      exact List.eq_nil_of_length_eq_zero (by omega)
    · right
      refine ⟨a, ds, rfl, ?_, fun j u hu => h5 j u hu, by omega, C_of_each l ds (by omega) h4⟩
      obtain ⟨v, b, q, c, zs, hcell, _⟩ := each 0 h0
      have hb : (a.add 0).block = a.block := by unfold Addr.add; split <;> rfl
      have := cell_lt hcell
      rwa [hb] at this
end

/-- A law's run, by its contract. -/
theorem law_walk {P : Program} {g : FuncId} {ps : List ETy} {F : dens ps → Option (dens [.bool])} (h : CtrOk P g (mkF ps [.bool] F)) {a : dens ps} (ht : F a = some true) {W : World} {vs : List Value} (hv : All2 (Rel0 W (fun g => g < W.heap.size) noLoc) (reL ps a) vs) (hw : ((ps.zip (reL ps a)).all fun p => wt p.1 p.2) = true) (hl : (reL ps a).length = ps.length) (hun : unL ps (reL ps a) = a) :
    Calls P g vs.toArray W fun e W' => e = .returned (.bool true) ∧ Below W.heap.size W W' := by
  refine Calls.mono (h.run (t := true) ht (fun _ h => h) hv hw hl hun) ?_
  rintro e W' ⟨u, okR, ρ', rfl, hp⟩
  refine ⟨?_, hp.os, hp.tape, hp.output, hp.size, hp.keep⟩
  have := hp.res 0
  simp [mkF, mkC, outOf, reL, mkV, tupOf, Rel, Rel0, lift, AV.isAgg, X] at this
  rw [this]
end Go.RX
