/- Regions in any order. -/
import Derived.Test.YtandibmpaamfbaaRt
set_option linter.unusedVariables false
set_option linter.unusedSimpArgs false
namespace Go.RX

theorem hasN_ok {l : List Nat} {n : Nat} (h : hasN l n = true) : n ∈ l := (hasN_iff (l := l) (n := n)).1 h

/-! ### what comes before -/
theorem befN_length (ops : List Oper) : ∀ n, (befN ops n).length = n
  | 0 => rfl
  | n + 1 => by simp [befN, befN_length ops n]

theorem befN_get (ops : List Oper) : ∀ (n m i : Nat), i < n → n ≤ m → (befN ops m)[i]? = (befN ops n)[i]?
  | n, 0, i, h, hm => by omega
  | n, m + 1, i, h, hm => by
    rcases Nat.lt_or_ge m n with h1 | h1
    · have : n = m + 1 := by omega
      subst this; rfl
    · rw [← befN_get ops n m i h h1]
      simp only [befN]
      rw [List.getElem?_append_left (by rw [befN_length]; omega)]

theorem bef_at {ops : List Oper} {j x : Nat} (h : x ∈ ((bef ops)[j]?).getD []) : ∃ o e, ops[j]? = some o ∧ e ∈ o.after.toList ∧ Region.binds .any e = true ∧ (x = e.on ∨ x ∈ ((bef ops)[e.on]?).getD []) := by
  unfold bef at *
  rcases Nat.lt_or_ge j ops.length with hj | hj
  · rw [befN_get ops (j + 1) ops.length j (by omega) (by omega)] at h
    simp only [befN] at h
    rw [List.getElem?_append_right (by rw [befN_length]; omega), befN_length, Nat.sub_self] at h
    simp only [List.getElem?_cons_zero, Option.getD_some, befOf] at h
    split at h
    · rename_i o ho
      simp only [List.mem_flatMap, List.mem_filter, List.mem_cons] at h
      obtain ⟨e, ⟨he, hb⟩, h⟩ := h
      refine ⟨o, e, ho, he, hb, ?_⟩
      rcases h with h | h
      · exact .inl h
      · right
        rcases Nat.lt_or_ge e.on j with h1 | h1
        · rw [befN_get ops j ops.length e.on h1 (by omega)]; exact h
        · rw [List.getElem?_eq_none (by rw [befN_length]; omega)] at h
          simp at h
    · simp at h
  · rw [List.getElem?_eq_none (by rw [befN_length]; omega)] at h
    simp at h

section
variable {P : Program}

/-- A path, by numbers. -/
theorem Path.run {ops : Array Oper} {N : Nat} {rest : List Oper} {f f' : Nat → AV} {H H' : List Blk} {ks : List Nat} (hp : Path P ops N rest f H f' H' ks) :
    ∃ (fs : Nat → Nat → AV) (Hs : Nat → List Blk) (kd : Nat → Nat) (τs : Nat → Tr) (vs : Nat → AV), fs 0 = f ∧ Hs 0 = H ∧ fs rest.length = f' ∧ Hs rest.length = H' ∧ ks.length = rest.length ∧ (∀ i, i < rest.length → ks[i]? = some (kd i)) ∧
      ∀ i o, rest[i]? = some o → (∀ d, o.dst = some d → d < N) ∧ GoodW P ops o (fs i) (Hs i) (kd i) (τs i) (vs i) (Hs (i + 1)) ∧ fs (i + 1) = putf (fun t => (τs i).app (fs i t)) o.dst (vs i) := by
  induction hp with
  | nil f H => exact ⟨fun _ => f, fun _ => H, fun _ => 0, fun _ => .id, fun _ => .dead, rfl, rfl, rfl, rfl, rfl, by simp, by simp⟩
  | cons good hd hp ih =>
    rename_i o rest f H k τ v H1 f' H' ks
    obtain ⟨fs, Hs, kd, τs, vs, h1, h2, h3, h4, h5, h6, h7⟩ := ih
    refine ⟨fun i => match i with | 0 => f | i + 1 => fs i, fun i => match i with | 0 => H | i + 1 => Hs i, fun i => match i with | 0 => k | i + 1 => kd i, fun i => match i with | 0 => τ | i + 1 => τs i, fun i => match i with | 0 => v | i + 1 => vs i, rfl, rfl, h3, h4, by simp [h5], ?_, ?_⟩
    · intro i hi
      cases i with
      | zero => rfl
      | succ i => simpa using h6 i (by simpa using hi)
    · intro i o' ho'
      cases i with
      | zero =>
        simp only [List.getElem?_cons_zero, Option.some.injEq] at ho'
        subst ho'
        exact ⟨hd, by rw [← h2] at good; exact good, h1⟩
      | succ i =>
        simp only [List.getElem?_cons_succ] at ho'
        exact h7 i o' ho'

theorem clash_ord {all : List Oper} {ks : List Nat} (h : orderOk all ks = true) {i j : Nat} {a b : Oper} (hij : i < j) (ha : all[i]? = some a) (hb : all[j]? = some b) {ka kb : Nat} (hka : ks[i]? = some ka) (hkb : ks[j]? = some kb)
    (hc : (∃ d, a.dst = some d ∧ (d ∈ readsOf all b ∨ b.dst = some d)) ∨ (∃ d, b.dst = some d ∧ d ∈ readsOf all a) ∨ clashK ka kb = true) : i ∈ ((bef all)[j]?).getD [] := by
  simp only [orderOk, Bool.and_eq_true] at h
  have hp := h.2
  unfold pairsOk at hp
  rw [List.all_eq_true] at hp
  have hj : j < all.length := (List.getElem?_eq_some_iff.1 hb).1
  have := hp j (by simpa using hj)
  rw [List.all_eq_true] at this
  have := this i (by simpa using hij)
  rw [Bool.or_eq_true] at this
  rcases this with h1 | h1
  · exact hasN_ok h1
  · simp only [ha, hb, hka, hkb, Option.getD_some, Bool.and_eq_true, Bool.not_eq_true'] at h1
    obtain ⟨⟨h1, h2⟩, h3⟩ := h1
    rcases hc with ⟨d, hd, hm⟩ | ⟨d, hd, hm⟩ | hc
    · simp only [apartD, hd, Bool.not_eq_true'] at h1
      exact absurd (by rcases hm with hm | hm <;> simp [hm]) (hasN_mem' h1)
    · simp only [apartD, hd, Bool.not_eq_true'] at h2
      exact absurd hm (hasN_mem' h2)
    · rw [hc] at h3; simp at h3

theorem edge_lt {all : List Oper} {ks : List Nat} (h : orderOk all ks = true) {j : Nat} {o : Oper} (ho : all[j]? = some o) {e : Edge} (he : e ∈ o.after.toList) (hb : Region.binds .any e = true) : e.on < j := by
  simp only [orderOk, Bool.and_eq_true] at h
  have hp := h.1.1.2
  unfold edgesOk at hp
  rw [List.all_eq_true] at hp
  have := hp j (by have := (List.getElem?_eq_some_iff.1 ho).1; simpa using this)
  rw [ho] at this
  simp only [List.all_eq_true] at this
  have := this e he
  rw [hb] at this
  simpa using this

/-- Done operations: what stands where. -/
def Dn (l : Array Bool) (i : Nat) : Prop := l.getD i false = true

theorem dn_set {l : Array Bool} {i k : Nat} (hi : i < l.size) : Dn (l.setIfInBounds i true) k ↔ k = i ∨ Dn l k := by
  unfold Dn
  simp only [Array.getD_eq_getD_getElem?, Array.getElem?_setIfInBounds]
  by_cases h : i = k
  · subst h; simp [hi]
  · simp only [h, if_false]
    constructor
    · exact .inr
    · rintro (h' | h')
      · exact absurd h'.symm h
      · exact h'

section
variable {ops : Array Oper} {N : Nat} {fs : Nat → Nat → AV} {Hs : Nat → List Blk} {kd : Nat → Nat} {τs : Nat → Tr} {vs : Nat → AV} {ks : List Nat}

/-- It writes the temporary, or turns all. -/
def Wr (ops : Array Oper) (kd : Nat → Nat) (t k : Nat) : Prop := ∃ o, ops.toList[k]? = some o ∧ (o.dst = some t ∨ 2 < kd k)
def Ch (kd : Nat → Nat) (k : Nat) : Prop := kd k ≠ 0 ∧ kd k ≠ 1

theorem app_id (f : Nat → AV) : (fun t => Tr.id.app (f t)) = f := rfl

theorem stable_t (hg : ∀ i o, ops.toList[i]? = some o → (∀ d, o.dst = some d → d < N) ∧ GoodW P ops o (fs i) (Hs i) (kd i) (τs i) (vs i) (Hs (i + 1)) ∧ fs (i + 1) = putf (fun t => (τs i).app (fs i t)) o.dst (vs i)) {t : Nat} {i : Nat} : ∀ m, i ≤ m → m ≤ ops.toList.length → (∀ k, i ≤ k → k < m → ¬ Wr ops kd t k) → fs m t = fs i t
  | 0, h, _, _ => by
    have : i = 0 := by omega
    rw [this]
  | m + 1, h, hm, hw => by
    rcases Nat.lt_or_ge m i with h1 | h1
    · have : i = m + 1 := by omega
      rw [this]
    · rw [← stable_t hg m h1 (by omega) (fun k hk hkm => hw k hk (by omega))]
      have hlt : m < ops.toList.length := by omega
      obtain ⟨_, hgd, he⟩ := hg m _ (List.getElem?_eq_getElem hlt)
      have hnw := hw m h1 (by omega)
      have h2 : ops.toList[m].dst ≠ some t := fun e => hnw ⟨_, List.getElem?_eq_getElem hlt, .inl e⟩
      have h3 : ¬ 2 < kd m := fun e => hnw ⟨_, List.getElem?_eq_getElem hlt, .inr e⟩
      rw [he, hgd.k2 (by omega)]
      cases hd : ops.toList[m].dst with
      | none => rfl
      | some d =>
        rw [hd] at h2
        simp only [putf]
        rw [if_neg (fun e => h2 (by rw [e]))]
        rfl

theorem stable_h (hg : ∀ i o, ops.toList[i]? = some o → (∀ d, o.dst = some d → d < N) ∧ GoodW P ops o (fs i) (Hs i) (kd i) (τs i) (vs i) (Hs (i + 1)) ∧ fs (i + 1) = putf (fun t => (τs i).app (fs i t)) o.dst (vs i)) {i : Nat} : ∀ m, i ≤ m → m ≤ ops.toList.length → (∀ k, i ≤ k → k < m → ¬ Ch kd k) → Hs m = Hs i
  | 0, h, _, _ => by
    have : i = 0 := by omega
    rw [this]
  | m + 1, h, hm, hw => by
    rcases Nat.lt_or_ge m i with h1 | h1
    · have : i = m + 1 := by omega
      rw [this]
    · rw [← stable_h hg m h1 (by omega) (fun k hk hkm => hw k hk (by omega))]
      have hlt : m < ops.toList.length := by omega
      obtain ⟨_, hgd, he⟩ := hg m _ (List.getElem?_eq_getElem hlt)
      have hnw := hw m h1 (by omega)
      exact hgd.k1 (by unfold Ch at hnw; omega)

def Cl (all : List Oper) (a b : Oper) (ka kb : Nat) : Prop :=
  (∃ d, a.dst = some d ∧ (d ∈ readsOf all b ∨ b.dst = some d)) ∨ (∃ d, b.dst = some d ∧ d ∈ readsOf all a) ∨ clashK ka kb = true

theorem clashK_symm (a b : Nat) : clashK a b = clashK b a := by
  unfold clashK
  cases Nat.beq a 2 <;> cases Nat.beq b 2 <;> cases Nat.beq a 0 <;> cases Nat.beq b 0 <;> cases Nat.blt 2 a <;> cases Nat.blt 2 b <;> rfl

theorem Cl.symm {all : List Oper} {a b : Oper} {ka kb : Nat} (h : Cl all a b ka kb) : Cl all b a kb ka := by
  rcases h with ⟨d, hd, h | h⟩ | ⟨d, hd, h⟩ | h
  · exact .inr (.inl ⟨d, hd, h⟩)
  · exact .inl ⟨d, h, .inr hd⟩
  · exact .inl ⟨d, hd, .inl h⟩
  · exact .inr (.inr (by rw [clashK_symm]; exact h))

theorem cl_ch {a b : Nat} (ha : a ≠ 0 ∧ a ≠ 1) (hb : b ≠ 0) : clashK a b = true := by
  unfold clashK
  rcases Nat.lt_or_ge 2 a with h | h
  · have : Nat.blt 2 a = true := by simpa using h
    simp [this]
  · have : a = 2 := by omega
    subst this
    have : Nat.beq b 0 = false := by
      cases hh : Nat.beq b 0
      · rfl
      · exact absurd (Nat.eq_of_beq_eq_true hh) hb
    simp [this]
theorem cl_3 {a b : Nat} (ha : 2 < a) : clashK a b = true := by
  unfold clashK
  have : Nat.blt 2 a = true := by simpa using ha
  simp [this]

theorem pairD (hord : orderOk ops.toList ks = true) (hks : ∀ i, i < ops.toList.length → ks[i]? = some (kd i)) {l : Array Bool} (hcl : ∀ j, Dn l j → ∀ i, i ∈ ((bef ops.toList)[j]?).getD [] → Dn l i)
    {i : Nat} {oi : Oper} (hi : ops.toList[i]? = some oi) (hnd : ¬ Dn l i) (hbef : ∀ k, k ∈ ((bef ops.toList)[i]?).getD [] → Dn l k) {k : Nat} {okk : Oper} (hk : ops.toList[k]? = some okk) (hne : k ≠ i) (hc : Cl ops.toList okk oi (kd k) (kd i)) : Dn l k ↔ k < i := by
  have hil := (List.getElem?_eq_some_iff.1 hi).1
  have hkl := (List.getElem?_eq_some_iff.1 hk).1
  rcases Nat.lt_or_ge k i with h | h
  · exact ⟨fun _ => h, fun _ => hbef _ (clash_ord hord h hk hi (hks k hkl) (hks i hil) hc)⟩
  · have hlt : i < k := by omega
    have := clash_ord hord hlt hi hk (hks i hil) (hks k hkl) hc.symm
    exact ⟨fun hd => absurd (hcl k hd i this) hnd, fun hh => absurd hh (by omega)⟩

theorem count_set {l : Array Bool} {i : Nat} (hi : i < l.size) (hd : ¬ Dn l i) : (l.setIfInBounds i true).toList.count false + 1 = l.toList.count false := by
  have hl : i < l.toList.length := by simpa using hi
  have hf : l.toList[i] = false := by
    unfold Dn at hd
    simp only [Array.getD_eq_getD_getElem?, Array.getElem?_eq_getElem hi, Option.getD_some, Bool.not_eq_true] at hd
    simpa using hd
  have hpos : 0 < l.toList.count false := List.count_pos_iff.2 (by rw [← hf]; exact List.getElem_mem hl)
  rw [Array.toList_setIfInBounds, List.count_set hl, hf]
  simp only [beq_self_eq_true, if_true, show (true == false) = false from rfl, Bool.false_eq_true, if_false]
  omega

theorem any_ok (hg : ∀ i o, ops.toList[i]? = some o → (∀ d, o.dst = some d → d < N) ∧ GoodW P ops o (fs i) (Hs i) (kd i) (τs i) (vs i) (Hs (i + 1)) ∧ fs (i + 1) = putf (fun t => (τs i).app (fs i t)) o.dst (vs i))
    (hks : ∀ i, i < ops.toList.length → ks[i]? = some (kd i)) (hord : orderOk ops.toList ks = true)
    {Q : Exit → Act → World → Prop} {W0 : World} {ok0 : Nat → Prop} {ρ0 : Nat → Option Nat} {H0 : List Blk} {D0 : List Deferred}
    (hQ : ∀ a' W' ok' ρ', Trans W0 W' ok0 ok' ρ0 H0 ρ' (Hs ops.toList.length) → HeapOk W' ok' ρ' (Hs ops.toList.length) → TR W' ok' (locs ρ' (Hs ops.toList.length)) (fs ops.toList.length) a' → a'.tmps.size = N → a'.defers = D0 → Q .normal a' W') :
    ∀ (fuel : Nat) (l : Array Bool) (a : Act) (W : World) (ok : Nat → Prop) (ρ : Nat → Option Nat) (H : List Blk), l.size = ops.toList.length → l.toList.count false ≤ fuel → a.tmps.size = N → a.defers = D0 → Trans W0 W ok0 ok ρ0 H0 ρ H → HeapOk W ok ρ H →
      (∀ j, Dn l j → ∀ i, i ∈ ((bef ops.toList)[j]?).getD [] → Dn l i) →
      (∀ t m, m ≤ ops.toList.length → (∀ k, Wr ops kd t k → (Dn l k ↔ k < m)) → Rel W ok (locs ρ H) (fs m t) (a.tmps.getD t undef)) →
      (∀ m, m ≤ ops.toList.length → (∀ k, k < ops.toList.length → Ch kd k → (Dn l k ↔ k < m)) → H = Hs m) →
      wpAny P .any ops Q fuel l a W := by
  -- all done
  have hdone : ∀ (l : Array Bool) (a : Act) (W : World) (ok : Nat → Prop) (ρ : Nat → Option Nat) (H : List Blk), (∀ k, k < ops.toList.length → Dn l k) → a.tmps.size = N → a.defers = D0 → Trans W0 W ok0 ok ρ0 H0 ρ H → HeapOk W ok ρ H →
      (∀ t m, m ≤ ops.toList.length → (∀ k, Wr ops kd t k → (Dn l k ↔ k < m)) → Rel W ok (locs ρ H) (fs m t) (a.tmps.getD t undef)) →
      (∀ m, m ≤ ops.toList.length → (∀ k, k < ops.toList.length → Ch kd k → (Dn l k ↔ k < m)) → H = Hs m) → Q .normal a W := by
    intro l a W ok ρ H hall hs hD hT hH htm hhp
    have hH' := hhp _ (Nat.le_refl _) (fun k hk _ => ⟨fun _ => hk, fun _ => hall k hk⟩)
    subst hH'
    refine hQ a W ok ρ hT hH (fun t => ?_) hs hD
    refine htm t _ (Nat.le_refl _) fun k hk => ?_
    obtain ⟨o, ho, _⟩ := hk
    have := (List.getElem?_eq_some_iff.1 ho).1
    exact ⟨fun _ => this, fun _ => hall k this⟩
  -- nothing ready: all done
  have hready : ∀ (l : Array Bool), l.size = ops.toList.length → Region.ready .any ops l = [] → ∀ k, k < ops.toList.length → Dn l k := by
    intro l hsz hr
    intro k
    induction k using Nat.strongRecOn with
    | _ k ih =>
      intro hk
      cases hd : l.getD k false with
      | true => exact hd
      | false =>
        exfalso
        have ho : ops.toList[k]? = some ops.toList[k] := List.getElem?_eq_getElem hk
        have : k ∈ Region.ready .any ops l := by
          rw [mem_ready]
          refine ⟨?_, ops.toList[k], by rw [← Array.getElem?_toList]; exact ho, ?_⟩
          · simp only [Array.getD_eq_getD_getElem?] at hd ⊢
            rw [Array.getElem?_eq_getElem (by omega)] at hd ⊢
            simpa using hd
          · intro e he hb
            have h1 := edge_lt hord ho (by simpa using he) hb
            exact ih e.on h1 (by omega)
        rw [hr] at this
        simp at this
  intro fuel
  induction fuel with
  | zero =>
    intro l a W ok ρ H hsz hc hs hD hT hH hcl htm hhp
    have hall : ∀ k, k < ops.toList.length → Dn l k := by
      intro k hk
      cases hd : l.getD k false with
      | true => exact hd
      | false =>
        have hlt : k < l.size := by omega
        have : false ∈ l.toList := by
          simp only [Array.getD_eq_getD_getElem?, Array.getElem?_eq_getElem hlt, Option.getD_some] at hd
          rw [← hd]
          simp
        have := List.count_pos_iff.2 this
        omega
    refine ⟨?_, hdone l a W ok ρ H hall hs hD hT hH htm hhp⟩
    cases hr : Region.ready .any ops l with
    | nil => rfl
    | cons i r =>
      exfalso
      have : i ∈ Region.ready .any ops l := by rw [hr]; simp
      rw [mem_ready] at this
      obtain ⟨h1, o, ho, _⟩ := this
      have hi : i < ops.toList.length := by simpa using (Array.getElem?_eq_some_iff.1 ho).1
      have := hall i hi
      unfold Dn at this
      simp only [Array.getD_eq_getD_getElem?] at h1 this
      rw [Array.getElem?_eq_getElem (by omega)] at h1 this
      simp only [Option.getD_some] at h1 this
      rw [h1] at this
      simp at this
  | succ fuel ih =>
    intro l a W ok ρ H hsz hc hs hD hT hH hcl htm hhp
    refine ⟨fun hr => hdone l a W ok ρ H (hready l hsz hr) hs hD hT hH htm hhp, fun i hi => ?_⟩
    rw [mem_ready] at hi
    obtain ⟨hnl, oi, hoi, hedges⟩ := hi
    have hoi' : ops.toList[i]? = some oi := by rw [Array.getElem?_toList]; exact hoi
    have hil := (List.getElem?_eq_some_iff.1 hoi').1
    have hisz : i < l.size := by omega
    have hnd : ¬ Dn l i := by
      unfold Dn
      simp only [Array.getD_eq_getD_getElem?] at hnl ⊢
      rw [Array.getElem?_eq_getElem hisz] at hnl ⊢
      simpa using hnl
    have hbef : ∀ k, k ∈ ((bef ops.toList)[i]?).getD [] → Dn l k := by
      intro k hk
      obtain ⟨o, e, ho, he, hb, hke⟩ := bef_at hk
      rw [hoi'] at ho
      simp only [Option.some.injEq] at ho
      subst ho
      have hde : Dn l e.on := hedges e (by simpa using he) hb
      rcases hke with rfl | hke
      · exact hde
      · exact hcl _ hde _ hke
    obtain ⟨hdN, hgd, hfs⟩ := hg i oi hoi'
    have pd := fun {k : Nat} {okk : Oper} => pairD hord hks hcl hoi' hnd hbef (k := k) (okk := okk)
    -- the operation's own view
    have hreads : ∀ t, t ∈ readsOf ops.toList oi → Rel W ok (locs ρ H) (fs i t) (a.tmps.getD t undef) := by
      intro t ht
      refine htm t i (by omega) ?_
      rintro k ⟨okk, hk, hw⟩
      by_cases hki : k = i
      · subst hki
        exact ⟨fun h => absurd h hnd, fun h => absurd h (by omega)⟩
      · refine pd hk hki ?_
        rcases hw with hw | hw
        · exact .inl ⟨t, hw, .inl ht⟩
        · exact .inr (.inr (cl_3 hw))
    have hHi : kd i ≠ 0 → H = Hs i := by
      intro h0
      refine hhp i (by omega) ?_
      intro k hk hch
      by_cases hki : k = i
      · subst hki
        exact ⟨fun h => absurd h hnd, fun h => absurd h (by omega)⟩
      · exact pd (List.getElem?_eq_getElem hk) hki (.inr (.inr (cl_ch hch h0)))
    have hop : ∃ H1, OpW P ops oi (fs i) H (τs i) (vs i) H1 ∧ (H1 = if kd i = 0 then H else Hs (i + 1)) := by
      by_cases h0 : kd i = 0
      · refine ⟨H, ?_, by rw [if_pos h0]⟩
        rw [hgd.k2 (.inl h0)]
        exact hgd.k0 h0 H
      · refine ⟨Hs (i + 1), ?_, by rw [if_neg h0]⟩
        rw [hHi h0]
        exact hgd.main
    obtain ⟨H1, hop, hH1⟩ := hop
    unfold wpOp
    rw [hoi]
    simp only
    refine hop Q a W ok ρ hreads hH _ ?_
    intro u W1 ok1 ρ1 hT1 hHk hv ht
    have hd' : ∀ d', oi.dst = some d' → d' < a.tmps.size := fun d' e => by rw [hs]; exact hdN d' e
    have hcnt := count_set hisz hnd
    refine ih _ _ W1 ok1 ρ1 H1 (by simp [hsz]) (by omega) (by rw [put_size, hs]) (by rw [put_defers, hD]) (hT.trans hT1) hHk ?_ ?_ ?_
    · intro j hj k hk
      rw [dn_set hisz] at hj ⊢
      right
      rcases hj with rfl | hj
      · exact hbef k hk
      · exact hcl j hj k hk
    · intro t m hm hw
      rw [put_getD hd']
      by_cases hwi : Wr ops kd t i
      · have him : i < m := (hw i hwi).1 ((dn_set hisz).2 (.inl rfl))
        have hord2 : ∀ k, Wr ops kd t k → k ≠ i → (Dn l k ↔ k < i) := by
          rintro k ⟨okk, hk, hwk⟩ hki
          refine pd hk hki ?_
          obtain ⟨o2, ho2, hwi⟩ := hwi
          rw [hoi'] at ho2
          simp only [Option.some.injEq] at ho2
          subst ho2
          rcases hwk with hwk | hwk
          · rcases hwi with hwi | hwi
            · exact .inl ⟨t, hwk, .inr hwi⟩
            · exact .inr (.inr (by rw [clashK_symm]; exact cl_3 hwi))
          · exact .inr (.inr (cl_3 hwk))
        have hst := stable_t hg (t := t) (i := i + 1) m him hm (fun k hk hkm hwk => by
          have h1 := (hw k hwk).2 hkm
          rw [dn_set hisz] at h1
          rcases h1 with h1 | h1
          · omega
          · have := (hord2 k hwk (by omega)).1 h1
            omega)
        rw [hst, hfs]
        by_cases hdt : oi.dst = some t
        · rw [if_pos hdt, hdt]
          simpa [putf] using hv
        · rw [if_neg hdt]
          have h3 : 2 < kd i := by
            obtain ⟨o2, ho2, hwi⟩ := hwi
            rw [hoi'] at ho2
            simp only [Option.some.injEq] at ho2
            subst ho2
            exact hwi.resolve_left hdt
          have hput : putf (fun t => (τs i).app (fs i t)) oi.dst (vs i) t = (τs i).app (fs i t) := by
            cases hdo : oi.dst with
            | none => rfl
            | some d =>
              rw [hdo] at hdt
              simp only [putf]
              rw [if_neg (fun e => hdt (by rw [e]))]
          rw [hput]
          refine ht _ _ (htm t i (by omega) ?_)
          rintro k ⟨okk, hk, hwk⟩
          by_cases hki : k = i
          · subst hki
            exact ⟨fun h => absurd h hnd, fun h => absurd h (by omega)⟩
          · exact pd hk hki (.inr (.inr (by rw [clashK_symm]; exact cl_3 h3)))
      · have hdt : oi.dst ≠ some t := fun e => hwi ⟨oi, hoi', .inl e⟩
        have h3 : ¬ 2 < kd i := fun e => hwi ⟨oi, hoi', .inr e⟩
        rw [if_neg hdt]
        have hτ := hgd.k2 (by omega)
        have := ht _ _ (htm t m hm (fun k hk => by
          rw [← hw k hk, dn_set hisz]
          exact ⟨.inr, fun h => h.resolve_left (fun e => hwi (e ▸ hk))⟩))
        rw [hτ] at this
        exact this
    · intro m hm hch
      by_cases hci : Ch kd i
      · have him : i < m := (hch i hil hci).1 ((dn_set hisz).2 (.inl rfl))
        have hst := stable_h hg (i := i + 1) m him hm (fun k hk hkm hck => by
          have hkl : k < ops.toList.length := by omega
          have h1 := (hch k hkl hck).2 hkm
          rw [dn_set hisz] at h1
          rcases h1 with h1 | h1
          · omega
          · have := (pd (List.getElem?_eq_getElem hkl) (by omega) (.inr (.inr (cl_ch hck hci.1)))).1 h1
            omega)
        rw [hst, hH1, if_neg hci.1]
      · have hH2 : H1 = H := by
          rw [hH1]
          split
          · rfl
          · rename_i h0
            rw [hgd.k1 (by unfold Ch at hci; omega), hHi h0]
        rw [hH2]
        refine hhp m hm fun k hk hck => ?_
        rw [← hch k hk hck, dn_set hisz]
        exact ⟨.inr, fun h => h.resolve_left (fun e => hci (e ▸ hck))⟩

theorem draw_ok {f f' : Nat → AV} {H H' : List Blk} (hp : Path P ops N ops.toList f H f' H' ks) (hord : orderOk ops.toList ks = true) (Q : Exit → Act → World → Prop) (a : Act) (W : World) (ok : Nat → Prop) (ρ : Nat → Option Nat) (hr : TR W ok (locs ρ H) f a) (hH : HeapOk W ok ρ H) (hs : a.tmps.size = N)
    (hQ : ∀ a' W' ok' ρ', Trans W W' ok ok' ρ H ρ' H' → HeapOk W' ok' ρ' H' → TR W' ok' (locs ρ' H') f' a' → a'.tmps.size = N → a'.defers = a.defers → Q .normal a' W') : wpAny P .any ops Q ops.size (Array.replicate ops.size false) a W := by
  obtain ⟨fs, Hs, kd, τs, vs, h1, h2, h3, h4, h5, h6, h7⟩ := hp.run
  subst h1 h2 h3 h4
  have hn0 : ∀ k, ¬ Dn (Array.replicate ops.size false) k := by
    intro k h
    unfold Dn at h
    simp only [Array.getD_eq_getD_getElem?, Array.getElem?_replicate] at h
    split at h <;> simp at h
  refine any_ok h7 h6 hord hQ ops.size _ a W ok ρ (Hs 0) (by simp) ?_ hs rfl Trans.refl hH ?_ ?_ ?_
  · simp
  · exact fun j hj => absurd hj (hn0 j)
  · intro t m hm hw
    have hst := stable_t h7 (t := t) (i := 0) m (by omega) hm (fun k _ hk hwk => hn0 k ((hw k hwk).2 hk))
    rw [hst]
    exact hr t
  · intro m hm hw
    exact (stable_h h7 (i := 0) m (by omega) hm (fun k _ hk hck => hn0 k ((hw k (by omega) hck).2 hk))).symm
end
end
end Go.RX
