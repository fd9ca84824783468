/- What a caller's input holds, for the laws' guards. -/
import Derived.Test.YtciapojlnhiggaaGreatZQc
import Derived.Test.YtciapojlnhiggaaGreatZSe
import Derived.SizedLaws
import Derived.ChangeArms
set_option linter.unusedVariables false
set_option linter.unusedSimpArgs false
namespace Go.RX
open S
theorem Wd_wf {n : Int} (h : (Lit.int .u64 n).wf = true) : Wd n := by
  have h : (decide ((0 : Int) ≤ n) && decide (n ≤ 18446744073709551615)) = true := h
  rw [Bool.and_eq_true, decide_eq_true_eq, decide_eq_true_eq] at h
  unfold Wd
  omega
/-- The kinds of a type's cells, where all are whole numbers. -/
def flatL (P : Program) (g : TypeId → Option (List IntKind)) : Nat → List Field → Option (List IntKind)
  | _, [] => some []
  | o, f :: fs => (g f.type).bind fun ks => cond (Nat.beq f.offset o && Nat.beq (P.cellsOf f.type) ks.length) ((flatL P g (o + ks.length) fs).map (ks ++ ·)) none
def flatK (P : Program) : Nat → TypeId → Option (List IntKind)
  | 0, _ => none
  | n + 1, t => match P.underlying t with
    | some (.int k) => some [k]
    | some (.struct fs) => (flatL P (flatK P n) 0 fs.toList).bind fun ks => cond (Nat.beq (P.cellsOf t) ks.length) (some ks) none
    | _ => none
def cellsK (ks : List IntKind) (zs : List Int) : List Value := List.zipWith (fun k n => .int k n) ks zs
def avsK (ks : List IntKind) (zs : List Int) : List AV := List.zipWith (fun k n => .int k n) ks zs
def HoldsK (ks : List IntKind) (cs : List Value) : Prop := ∃ zs : List Int, zs.length = ks.length ∧ cs = cellsK ks zs ∧ ∀ p ∈ ks.zip zs, (Lit.int p.1 p.2).wf = true
theorem HoldsK.append {ks ls : List IntKind} {cs ds : List Value} (h : HoldsK ks cs) (h' : HoldsK ls ds) : HoldsK (ks ++ ls) (cs ++ ds) := by
  obtain ⟨zs, hl, rfl, hw⟩ := h
  obtain ⟨ys, hl', rfl, hw'⟩ := h'
  refine ⟨zs ++ ys, by simp [hl, hl'], ?_, ?_⟩
  · unfold cellsK
    rw [List.zipWith_append hl.symm]
  · intro p hp
    rw [List.zip_append hl.symm, List.mem_append] at hp
    exact hp.elim (hw p) (hw' p)
section
variable {H : Type} {enc : TypeId × Value → H} {P : Program} {w : World} {base : Nat} {spare : Nat → Bool} {held : Bool}
theorem flatL_open {g : TypeId → Option (List IntKind)} {cs : List Value} (hg : ∀ (t : TypeId) (ks : List IntKind), g t = some ks → ∀ (m : Nat) (ds : List Value) (y : DataW H × List MemPlace), DataW.trod enc P w base spare held m t ds = some y → HoldsK ks ds) (m : Nat) :
    ∀ (fs : List Field) (o : Nat) (ks : List IntKind), flatL P g o fs = some ks → cs.length = o + ks.length → (∀ f ∈ fs, ∃ y, DataW.trod enc P w base spare held m f.type ((cs.drop f.offset).take (P.cellsOf f.type)) = some y) → HoldsK ks (cs.drop o)
  | [], o, ks, h, hl, _ => by
    simp only [flatL, Option.some.injEq] at h
    subst h
    rw [List.drop_eq_nil_of_le (by simp at hl; omega)]
    exact ⟨[], rfl, rfl, fun p hp => by simp at hp⟩
  | f :: fs, o, ks, h, hl, hy => by
    simp only [flatL, Option.bind_eq_some_iff] at h
    obtain ⟨k1, h1, h⟩ := h
    cases hc : (Nat.beq f.offset o && Nat.beq (P.cellsOf f.type) k1.length) with
    | false => rw [hc] at h; cases h
    | true =>
      rw [hc] at h
      rw [Bool.and_eq_true] at hc
      have e1 := Nat.eq_of_beq_eq_true hc.1
      have e2 := Nat.eq_of_beq_eq_true hc.2
      simp only [cond_true, Option.map_eq_some_iff] at h
      obtain ⟨k2, h2, rfl⟩ := h
      obtain ⟨y, hy0⟩ := hy f (by simp)
      rw [e1, e2] at hy0
      have a := hg _ _ h1 _ _ _ hy0
      have b := flatL_open hg m fs (o + k1.length) k2 h2 (by rw [hl, List.length_append]; omega) (fun f' hf' => hy f' (by simp [hf']))
      have := a.append b
      rwa [← List.drop_drop, List.take_append_drop] at this
theorem flatK_open : ∀ (n : Nat) (t : TypeId) (ks : List IntKind), flatK P n t = some ks → ∀ (m : Nat) (cs : List Value) (y : DataW H × List MemPlace), DataW.trod enc P w base spare held m t cs = some y → HoldsK ks cs
  | 0, t, ks, h, m, cs, y, hy => by cases h
  | n + 1, t, ks, h, m, cs, y, hy => by
    unfold flatK at h
    split at h
    · rename_i k hk
      obtain ⟨z, rfl, _, hw⟩ := DataW.trod_int hk hy
      cases h
      refine ⟨[z], rfl, rfl, fun p hp => ?_⟩
      simp only [List.zip_cons_cons, List.zip_nil_left, List.mem_singleton] at hp
      subst hp
      exact hw
    · rename_i fs hk
      simp only [Option.bind_eq_some_iff] at h
      obtain ⟨k1, h1, h⟩ := h
      cases hc : Nat.beq (P.cellsOf t) k1.length with
      | false => rw [hc] at h; cases h
      | true =>
        rw [hc] at h
        cases h
        obtain ⟨xs, m', _, _, hl, hx, hf⟩ := DataW.trod_struct hk hy
        have := flatL_open (cs := cs) (flatK_open n) m' fs.toList 0 ks h1 (by rw [hl, Nat.eq_of_beq_eq_true hc]; omega) (by
          intro f hf'
          obtain ⟨i, hi, rfl⟩ := List.getElem_of_mem hf'
          have e := hf i fs.toList[i] (by simp)
          have : i < xs.length := by rw [hx]; simpa using hi
          rw [List.getElem?_eq_getElem this] at e
          exact ⟨_, e⟩)
        simpa using this
    · cases h
end
theorem etaK {ks : List IntKind} {zs : List Int} (h : zs.length = ks.length) : wtL (ks.map .int) (avsK ks zs) = true := by
  induction ks generalizing zs with
  | nil => cases zs with
    | nil => rfl
    | cons z zs => cases h
  | cons k ks ih =>
    cases zs with
    | nil => cases h
    | cons z zs =>
      show (wt (.int k) (.int k z) && wtL (ks.map .int) (avsK ks zs)) = true
      rw [ih (by simpa using h)]
      rw [Bool.and_true]
      cases k <;> rfl
theorem mkV_K {ks : List IntKind} {zs : List Int} (h : zs.length = ks.length) : mkV (.st (ks.map .int)) (avsK ks zs) = .agg (avsK ks zs) := by
  show AV.agg (etaL (ks.map .int) 0 (avsK ks zs)) = _
  have := etaL_wt (ks.map .int) [] (avsK ks zs) (etaK h)
  simp only [List.length_nil, List.nil_append] at this
  rw [this]
theorem C_K {W : World} {ok : Nat → Prop} {R : Nat → Option Loc} {ks : List IntKind} {zs : List Int} (h : zs.length = ks.length) : C W ok R 1 (avsK ks zs) (cellsK ks zs) := by
  induction ks generalizing zs with
  | nil =>
    cases zs with
    | nil => rfl
    | cons z zs => cases h
  | cons k ks ih =>
    cases zs with
    | nil => cases h
    | cons z zs => exact ⟨[.int k z], cellsK ks zs, rfl, rfl, rfl, ih (by simpa using h)⟩
theorem rel_K {W : World} {ok : Nat → Prop} {R : Nat → Option Loc} {ks : List IntKind} {zs : List Int} (h : zs.length = ks.length) : Rel0 W ok R (mkV (.st (ks.map .int)) (avsK ks zs)) (.agg (cellsK ks zs).toArray) := by
  rw [mkV_K h]
  refine ⟨_, rfl, ?_⟩
  simp only [X]
  exact C_K h
theorem wt_K {ks : List IntKind} {zs : List Int} (h : zs.length = ks.length) : wt (.st (ks.map .int)) (mkV (.st (ks.map .int)) (avsK ks zs)) = true := by
  rw [mkV_K h]
  exact etaK h
theorem get_K {ks : List IntKind} {zs : List Int} (h : zs.length = ks.length) : getV (.st (ks.map .int)) (mkV (.st (ks.map .int)) (avsK ks zs)) = avsK ks zs := by
  rw [mkV_K h]
  rfl
theorem wf_K {ks : List IntKind} {zs : List Int} (hl : zs.length = ks.length) (hw : ∀ p ∈ ks.zip zs, (Lit.int p.1 p.2).wf = true) {k : IntKind} (hk : ∀ x ∈ ks, x = k) : ∀ i, i < ks.length → (Lit.int k (aget (avsK ks zs) i).toInt).wf = true := by
  intro i hi
  rw [aget_eq _ _ (by unfold avsK; rw [List.length_zipWith]; omega)]
  have hm : (ks[i], zs[i]) ∈ ks.zip zs := by
    rw [List.mem_iff_getElem]
    exact ⟨i, by rw [List.length_zip]; omega, by simp⟩
  have e : ((avsK ks zs)[i]'(by unfold avsK; rw [List.length_zipWith]; omega)).toInt = zs[i] := by
    simp [avsK, AV.toInt]
  rw [e, ← hk ks[i] (List.getElem_mem hi)]
  exact hw _ hm
theorem cs_K {ks : List IntKind} {cs : Array Value} (h : HoldsK ks cs.toList) : ∃ zs : List Int, cs = (cellsK ks zs).toArray ∧ zs.length = ks.length ∧ ∀ p ∈ ks.zip zs, (Lit.int p.1 p.2).wf = true := by
  obtain ⟨zs, hl, hc, hw⟩ := h
  exact ⟨zs, by rw [← hc], hl, hw⟩
theorem ball_cons {a b : Bool} (ha : a = true) (hb : b = true) : (a && b) = true := by rw [ha, hb]; rfl
end Go.RX
