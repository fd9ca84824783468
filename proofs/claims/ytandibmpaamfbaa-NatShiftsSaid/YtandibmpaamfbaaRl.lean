/- Values made ready to be held or handed on; loads. -/
import Derived.Test.YtandibmpaamfbaaRk
set_option linter.unusedVariables false
set_option linter.unusedSimpArgs false
namespace Go.RX
section
variable {P : Program} {tab : Tab} {W W' : World} {ok ok' okv : Nat → Prop} {ρ ρ' : Nat → Option Nat} {H H' : List Blk} {R R' : Nat → Option Loc}

/-! ### values of a kind -/
theorem wtL_cons {e : ETy} {es : List ETy} {x : AV} {xs : List AV} (h : wtL (e :: es) (x :: xs) = true) : wt e x = true ∧ wtL es xs = true ∧ (∀ fs, e ≠ .st fs) := by
  cases e <;> simp [wtL] at h <;> exact ⟨h.1, h.2, by simp⟩

theorem wt_plain {e : ETy} {x : AV} (h : wt e x = true) (hs : ∀ fs, e ≠ .st fs) : plain x = true := by
  cases e with
  | st fs => exact absurd rfl (hs fs)
  | int k => cases x <;> simp [wt] at h <;> rfl
  | bool => cases x <;> simp [wt] at h <;> rfl
  | str => cases x <;> simp [wt] at h <;> rfl
  | sl e => cases e <;> cases x <;> simp [wt] at h <;> rfl
  | opq n =>
    unfold wt at h
    split at h <;> first | rfl | simp at *

theorem wtL_cells : ∀ (fs : List ETy) (l : List AV) (cs : List Value), wtL fs l = true → C W ok R 1 l cs → cs.length = fs.length ∧ ∀ u, u ∈ cs → u.oneCell' = true
  | [], l, cs, h, hC => by
    cases l with
    | nil => simp only [C] at hC; simp [hC]
    | cons x xs => simp [wtL] at h
  | e :: es, l, cs, h, hC => by
    cases l with
    | nil => simp [wtL] at h
    | cons x xs =>
      obtain ⟨h1, h2, h3⟩ := wtL_cons h
      simp only [C] at hC
      obtain ⟨c, d, e', hm, hx, hd⟩ := hC
      obtain ⟨u, e1, e2, e3⟩ := X_one (wt_plain h1 h3) hx
      obtain ⟨q1, q2⟩ := wtL_cells es xs d h2 hd
      subst e' e1
      refine ⟨by simp [q1], ?_⟩
      intro v hv
      simp only [List.cons_append, List.nil_append, List.mem_cons] at hv
      rcases hv with rfl | hv
      · exact e3
      · exact q2 v hv

theorem wt_cells {e : ETy} {x : AV} {cs : List Value} (h : wt e x = true) (hx : X W ok R x cs) : cs.length = e.sz ∧ ∀ u, u ∈ cs → u.oneCell' = true := by
  by_cases hs : ∃ fs, e = .st fs
  · obtain ⟨fs, rfl⟩ := hs
    cases x <;> simp [wt] at h
    simp only [X] at hx
    exact wtL_cells fs _ cs h hx
  · have hs' : ∀ fs, e ≠ .st fs := fun fs he => hs ⟨fs, he⟩
    obtain ⟨u, rfl, _, h1⟩ := X_one (wt_plain h hs') hx
    refine ⟨?_, by simp [h1]⟩
    cases e with
    | st fs => exact absurd rfl (hs' fs)
    | opq n =>
      unfold wt at h
      split at h <;> first | rfl | (simp_all [ETy.sz]; done) | simp at *
    | _ => rfl

theorem wt_dead (e : ETy) : wt e .dead = false := by
  cases e with
  | sl e => cases e <;> rfl
  | opq n => unfold wt; split <;> first | rfl | simp_all
  | _ => rfl
theorem wt_tup (e : ETy) (l : List AV) : wt e (.tup l) = false := by
  cases e with
  | sl e => cases e <;> rfl
  | opq n => unfold wt; split <;> first | rfl | simp_all
  | _ => rfl
theorem pureV_dead (e : ETy) : pureV H e .dead = .dead := by cases e <;> rfl
theorem pureV_tup (e : ETy) (l : List AV) : pureV H e (.tup l) = .tup l := by cases e <;> rfl
theorem aget_ge : ∀ {l : List AV} {n : Nat}, l.length ≤ n → aget l n = .dead
  | [], _, _ => rfl
  | x :: xs, 0, h => by simp at h
  | x :: xs, n + 1, h => by simpa [aget] using aget_ge (l := xs) (n := n) (by simpa using h)

theorem plain_of {y : AV} (h1 : y = .dead → False) (h2 : ∀ l, y = .tup l → False) (h3 : ∀ l, y = .agg l → False) : plain y = true := by
  cases y with
  | dead => exact (h1 rfl).elim
  | tup l => exact (h2 l rfl).elim
  | agg l => exact (h3 l rfl).elim
  | _ => rfl

theorem C_of_mem {m : Nat} : ∀ {l : List AV} {cs : List Value}, (∀ x, x ∈ l → ∀ c, X W ok R x c → X W ok' R' x c) → C W ok R m l cs → C W ok' R' m l cs
  | [], _, _, h => by simpa only [C] using h
  | x :: xs, cs, hm, h => by
    simp only [C] at h ⊢
    obtain ⟨c, d, e, h1, hx, hd⟩ := h
    exact ⟨c, d, e, h1, hm x (by simp) c hx, C_of_mem (fun y hy => hm y (by simp [hy])) hd⟩

/-- A value of a kind leads to no block of the call's own. -/
theorem wt_noLoc {e : ETy} {x : AV} {cs : List Value} (h : wt e x = true) (hx : X W ok R x cs) : X W ok R' x cs := by
  have one : ∀ (e : ETy) (x : AV) (cs : List Value), (∀ fs, e ≠ .st fs) → wt e x = true → X W ok R x cs → X W ok R' x cs := by
    intro e x cs hs h hx
    refine X_mono2 (Later.refl W ok) (fun _ h => h) x cs (fun b loc hb => ?_) hx
    cases e with
    | st fs => exact absurd rfl (hs fs)
    | opq n =>
      unfold wt at h
      split at h <;> simp [mentions] at hb <;> simp at *
    | sl e => cases e <;> cases x <;> simp [wt] at h <;> simp [mentions] at hb
    | _ => cases x <;> simp [wt] at h <;> simp [mentions] at hb
  by_cases hs : ∃ fs, e = .st fs
  · obtain ⟨fs, rfl⟩ := hs
    cases x <;> simp [wt] at h
    rename_i l
    simp only [X] at hx ⊢
    have go : ∀ (fs : List ETy) (l : List AV) (cs : List Value), wtL fs l = true → C W ok R 1 l cs → C W ok R' 1 l cs := by
      intro fs
      induction fs with
      | nil =>
        intro l cs h hC
        cases l with
        | nil => simpa only [C] using hC
        | cons x xs => simp [wtL] at h
      | cons e es ih =>
        intro l cs h hC
        cases l with
        | nil => simp [wtL] at h
        | cons x xs =>
          obtain ⟨h1, h2, h3⟩ := wtL_cons h
          simp only [C] at hC ⊢
          obtain ⟨c, d, e', hm, hx, hd⟩ := hC
          exact ⟨c, d, e', hm, one e x c h3 h1 hx, ih xs d h2 hd⟩
    exact go fs l cs h hx
  · exact one e x cs (fun fs he => hs ⟨fs, he⟩) h hx

/-! ### made ready -/
theorem X_nil_sl {e : ETy} {cs : List Value} (h : X W ok R .nilS cs) : X W ok R (match e with | .int k => .ints k [] | e => .list e []) cs := by
  simp only [X] at h
  subst h
  cases e <;> simp [X]

mutual
theorem X_fit : ∀ (e : ETy) (x : AV) (cs : List Value), X W ok R x cs → X W ok R (fitE e x) cs
  | .sl e, x, cs, h => by
    cases x with
    | nilS =>
      have := X_nil_sl (e := e) h
      cases e <;> simpa [fitE] using this
    | _ => simpa [fitE] using h
  | .st fs, x, cs, h => by
    cases x with
    | agg l =>
      simp only [fitE, X] at h ⊢
      exact C_fit fs l cs h
    | _ => simpa [fitE] using h
  | .int k, x, cs, h => by simpa [fitE] using h
  | .bool, x, cs, h => by simpa [fitE] using h
  | .str, x, cs, h => by simpa [fitE] using h
  | .opq n, x, cs, h => by simpa [fitE] using h
theorem C_fit : ∀ (fs : List ETy) (l : List AV) (cs : List Value), C W ok R 1 l cs → C W ok R 1 (fitL fs l) cs
  | [], l, cs, h => by simpa [fitL] using h
  | e :: es, [], cs, h => by simpa [fitL] using h
  | e :: es, x :: xs, cs, h => by
    simp only [fitL, C] at h ⊢
    obtain ⟨c, d, e', hm, hx, hd⟩ := h
    exact ⟨c, d, e', hm, X_fit e x c hx, C_fit es xs d hd⟩
end

theorem isAgg_fit {e : ETy} {x : AV} : (fitE e x).isAgg = x.isAgg := by
  cases e with
  | sl e =>
    cases x with
    | nilS => cases e <;> rfl
    | _ => rfl
  | st fs => cases x <;> rfl
  | _ => rfl

theorem X_view' (h : HeapOk W ok ρ H) (ho : ∀ g, ok g → okv g) {x : AV} (hok : ∀ b g, b ∈ refOf x → (hget H b).live = true → ρ b = some g → okv g) (hna : x.isAgg = false) {cs : List Value} (hr : X W ok (locs ρ H) x cs) : X W okv (locs ρ H) (view H x) cs := by
  cases x with
  | vec b sz => exact X_view h ho (.inl ⟨b, sz, rfl⟩) hok hr
  | ref b sz off len cap => exact X_view h ho (.inr ⟨b, sz, off, len, cap, rfl⟩) hok hr
  | _ => exact X_mono (Later.refl W ok) ho (fun _ _ h => h) _ _ hr

/-- Made ready, of its kind: the value it was, leading to no block of the call's own. -/
theorem X_pure (h : HeapOk W ok ρ H) (ho : ∀ g, ok g → okv g) {e : ETy} {x : AV} (hw : wt e (pureV H e x) = true) (hok : ∀ b g, b ∈ refOf x → (hget H b).live = true → ρ b = some g → okv g) {cs : List Value} (hr : X W ok (locs ρ H) x cs) : X W okv noLoc (pureV H e x) cs := by
  refine wt_noLoc hw (R := locs ρ H) ?_
  unfold pureV
  apply X_fit
  split
  · rename_i l
    simp only [X] at hr ⊢
    have hcell : ∀ (l : List AV) (cs : List Value), (∀ b, b ∈ refOf (.agg l) → ∀ g, (hget H b).live = true → ρ b = some g → okv g) → C W ok (locs ρ H) 1 l cs → C W okv (locs ρ H) 1 (l.map (view H)) cs := by
      intro l
      induction l with
      | nil => intro cs _ hC; simpa only [List.map_nil, C] using hC
      | cons y ys ih =>
        intro cs hb hC
        simp only [List.map_cons, C] at hC ⊢
        obtain ⟨c, d, e', hm, hx, hd⟩ := hC
        refine ⟨c, d, e', hm, ?_, ih d (fun b hbm => hb b ?_) hd⟩
        · by_cases ha : y.isAgg = true
          · cases y <;> simp [AV.isAgg] at ha
            simp only [view]
            exact X_mono (Later.refl W ok) ho (fun _ _ h => h) _ _ hx
          · have ha' : y.isAgg = false := by simpa using ha
            refine X_view' h ho (fun b g hbm hl hg => hb b ?_ g hl hg) ha' hx
            cases y <;> simp [refOf, AV.isAgg] at hbm ha' ⊢ <;> simp [hbm]
        · simp only [refOf, List.map_cons, List.flatten_cons, List.mem_append] at hbm ⊢
          exact .inr hbm
    exact hcell l cs (fun b hb g hl hg => hok b g hb hl hg) hr
  · rename_i hna
    refine X_view' h ho hok ?_ hr
    cases x <;> simp [AV.isAgg]
    exact hna _ rfl

theorem isAgg_pure {e : ETy} {x : AV} : (pureV H e x).isAgg = x.isAgg := by
  unfold pureV
  rw [isAgg_fit]
  cases x with
  | agg l => rfl
  | _ => exact isAgg_view rfl

theorem Rel0_pure (h : HeapOk W ok ρ H) (ho : ∀ g, ok g → okv g) {e : ETy} {x : AV} (hw : wt e (pureV H e x) = true) (hok : ∀ b g, b ∈ refOf x → (hget H b).live = true → ρ b = some g → okv g) {v : Value} (hr : Rel W ok (locs ρ H) x v) : Rel0 W okv noLoc (pureV H e x) v ∧ X W okv noLoc (pureV H e x) v.cells.toList := by
  have hnd : x ≠ .dead := by
    rintro rfl
    rw [pureV_dead, wt_dead] at hw
    simp at hw
  have hnt : ∀ l, x ≠ .tup l := by
    rintro l rfl
    rw [pureV_tup, wt_tup] at hw
    simp at hw
  have h0 : Rel0 W ok (locs ρ H) x v := by
    unfold Rel at hr
    split at hr
    · exact absurd rfl (hnt _)
    · exact absurd rfl hnd
    · exact hr
  unfold Rel0 at h0 ⊢
  rw [isAgg_pure]
  cases ha : x.isAgg
  · simp only [ha, lift, Bool.false_eq_true, if_false] at h0 ⊢
    have hx := X_pure h ho hw hok h0
    refine ⟨hx, ?_⟩
    have hp : plain (pureV H e x) = true := by
      have : (pureV H e x).isAgg = false := by rw [isAgg_pure]; exact ha
      cases hy : pureV H e x <;> simp only [hy, AV.isAgg, Bool.true_eq_false, wt_dead, wt_tup, Bool.false_eq_true] at this hw <;> rfl
    obtain ⟨u, e1, e2, _⟩ := X_one hp hx
    simp only [List.cons.injEq, and_true] at e1
    rw [e1, e2]
    rw [← e1]
    exact hx
  · simp only [ha, lift, if_true] at h0 ⊢
    obtain ⟨cs, rfl, hx⟩ := h0
    exact ⟨⟨cs, rfl, X_pure h ho hw hok hx⟩, X_pure h ho hw hok hx⟩

/-! ### loads -/
theorem At_zero {ad : Addr} {u : Value} {ds : List Value} (h : At W ad (u :: ds)) : W.cell? ad = some u := by
  have := h 0 u rfl
  simpa [Addr.add] using this

theorem load_one (hT : TabOk P tab) {t : TypeId} {d : TyD} (hd : tab t = some d) (ha : d.tk.isAgg = false) {ad : Addr} {u : Value} (h : W.cell? ad = some u) :
    (Instr.loadAt t (.pointer (some ad))).run P W = .ok u W := by
  obtain ⟨z, hz⟩ := hT _ _ hd
  simp [Instr.loadAt, Instr.sureAddr, loadVar, hz.isAgg, ha, h]

theorem load_agg (hT : TabOk P tab) {t : TypeId} {d : TyD} (hd : tab t = some d) (ha : d.tk.isAgg = true) {ad : Addr} {ds : List Value} (h : At W ad ds) (hl : ds.length = d.sz) :
    (Instr.loadAt t (.pointer (some ad))).run P W = .ok (.agg ds.toArray) W := by
  obtain ⟨z, hz⟩ := hT _ _ hd
  have := run_loadCells_list (P := P) (w := W) ad ds h
  rw [hl] at this
  simp [Instr.loadAt, Instr.sureAddr, loadVar, hz.isAgg, ha, hz.sizeOf, this]

theorem cell_add0 (g o : Nat) : (⟨g, o, none⟩ : Addr).add 0 = ⟨g, o, none⟩ := by simp [Addr.add]

theorem ldVal_ok (hT : TabOk P tab) (h : HeapOk W ok ρ H) {t : TypeId} {x v : AV} {u : Value} (hv : ldVal tab H t x = some (true, v)) (hr : Rel W ok (locs ρ H) x u) : Res P W ok (locs ρ H) (Instr.loadAt t u) v := by
  unfold ldVal at hv
  split at hv
  · rename_i d hd
    split at hv
    · rename_i l
      cases hc : (d.tk.isAgg && Nat.beq l.length d.sz)
      · simp [hc] at hv
      · simp only [hc, cond_true, Option.some.injEq, Prod.mk.injEq, true_and] at hv
        subst hv
        rw [Bool.and_eq_true] at hc
        rw [rel_elem] at hr
        obtain ⟨ad, ds, rfl, hok, hat, hx⟩ := hr
        simp only [X] at hx
        have hl := C_length 1 l ds hx
        refine ⟨_, load_agg hT hd hc.1 hat (by rw [hl, Nat.mul_one]; exact Nat.eq_of_beq_eq_true hc.2), ?_⟩
        rw [rel_agg]
        exact ⟨_, rfl, by simpa using C_mono (Later.refl W ok) (fun _ h => h) (R := noLoc) (fun b loc h => by simp [noLoc] at h) 1 l ds hx⟩
    · simp at hv
    · simp at hv
    · rename_i y hna hnd hnt
      cases ha : d.tk.isAgg
      · simp only [ha, cond_false, Option.some.injEq, Prod.mk.injEq, true_and] at hv
        subst hv
        rw [rel_elem] at hr
        obtain ⟨ad, ds, rfl, hok, hat, hx⟩ := hr
        have hp : plain y = true := by cases y <;> simp_all [plain]
        obtain ⟨w, rfl, e2, _⟩ := X_one hp hx
        refine ⟨w, load_one hT hd ha (At_zero hat), Rel_of_Rel0 (Rel0_of_X (by cases y <;> simp_all [AV.isAgg, plain]) ?_)⟩
        exact X_mono (Later.refl W ok) (fun _ h => h) (R := noLoc) (fun b loc h => by simp [noLoc] at h) y _ hx
      · simp [ha] at hv
    · rename_i b sz i o
      rw [rel_ptr] at hr
      obtain ⟨loc, g, hloc, hg, rfl, hi⟩ := hr
      obtain ⟨hl, hg', hn⟩ := locs_some hloc
      have hb := h.blk b
      rw [← hg', hg] at hb
      split at hv
      · simp at hv
      · rename_i ty k l hH
        rw [hH] at hb hn
        obtain ⟨cur, hh, hp⟩ := hb
        simp only [Blk.len] at hn
        cases hc : (Nat.beq sz 1 && Nat.beq o 0)
        · simp [hc] at hv
        · rw [Bool.and_eq_true] at hc
          have hs : sz = 1 := Nat.eq_of_beq_eq_true hc.1
          have ho : o = 0 := Nat.eq_of_beq_eq_true hc.2
          subst hs ho
          have hc' : (Nat.beq 1 1 && Nat.beq 0 0) = true := rfl
          rw [hc', cond_true] at hv
          cases ha : d.tk.isAgg
          · simp only [ha, cond_false, Option.some.injEq, Prod.mk.injEq, true_and] at hv
            subst hv
            refine res_int (load_one hT hd ha ?_)
            rw [Nat.mul_one, Nat.add_zero, cell_block hh]
            apply hp
            have : i < l.length := by omega
            rw [List.getElem?_map, List.getElem?_eq_getElem this]
            simp [rdN, List.getD_eq_getElem?_getD, List.getElem?_eq_getElem this]
          · simp only [ha, cond_true] at hv
            cases hi0 : Nat.beq i 0
            · simp [hi0] at hv
            · have hi0' : i = 0 := Nat.eq_of_beq_eq_true hi0
              subst hi0'
              simp only [hi0, cond_true, Option.some.injEq, Prod.mk.injEq, decide_eq_true_eq] at hv
              obtain ⟨hlen, rfl⟩ := hv
              have hat := At_block (o := 0) hh hp
              refine ⟨_, load_agg hT hd ha (by simpa using hat) (by simpa using hlen), ?_⟩
              rw [rel_agg]
              refine ⟨_, rfl, ?_⟩
              have : ∀ l : List Int, C W ok (locs ρ H) 1 (l.map (.int k)) (l.map (.int k)) := by
                intro l
                induction l with
                | nil => simp [C]
                | cons x xs ih => simp only [List.map_cons, C]; exact ⟨[.int k x], _, rfl, rfl, by simp [X], ih⟩
              simpa using this l
      · rename_i ty e l hH
        rw [hH] at hb hn
        obtain ⟨hwt, cur, ds, hh, hp, hC⟩ := hb
        simp only [Blk.len] at hn
        cases hc : Nat.beq sz e.sz
        · simp [hc] at hv
        · have hs : sz = e.sz := Nat.eq_of_beq_eq_true hc
          simp only [hc, cond_true] at hv
          have hil : i < l.length := by omega
          have hx := C_at _ _ _ hC i hil
          rw [← eta_wt _ _ (hwt _ (aget_mem l i hil))] at hx
          have hat0 : ∀ o', At W ⟨g, i * sz + o', none⟩ (((ds.drop (i * e.sz)).take e.sz).drop o') := by
            intro o' j w hw
            refine At_block (o := i * sz + o') hh hp j w ?_
            rw [List.getElem?_drop] at hw ⊢
            rw [List.getElem?_take] at hw
            split at hw
            · rw [List.getElem?_drop] at hw
              rw [hs, ← hw]
              congr 1
              omega
            · simp at hw
          split at hv
          · rename_i fs hfs
            rw [hfs] at hx
            simp only [X] at hx
            have hlf := C_length 1 fs _ hx
            cases ha : d.tk.isAgg
            · simp only [ha, cond_false] at hv
              have hone : ∀ y, aget fs o = y → plain y = true → v = y → Res P W ok (locs ρ H) (Instr.loadAt t (.pointer (some ⟨g, i * sz + o, none⟩))) v := by
                rintro y hy hpl rfl
                have hof : o < fs.length := by
                  rcases Nat.lt_or_ge o fs.length with h1 | h1
                  · exact h1
                  · have := aget_ge h1
                    rw [this] at hy
                    subst hy
                    simp [plain] at hpl
                obtain ⟨w, hw, hxw⟩ := C_one hx o hof
                rw [hy] at hxw
                refine ⟨w, load_one hT hd ha ?_, Rel_of_Rel0 (Rel0_of_X (by cases v <;> simp_all [AV.isAgg, plain]) (X_mono (Later.refl W ok) (fun _ h => h) (R := noLoc) (fun b loc h => by simp [noLoc] at h) v _ hxw))⟩
                have := hat0 o 0 w (by rw [List.getElem?_drop, Nat.add_zero]; exact hw)
                rwa [cell_add0] at this
              split at hv
              · simp at hv
              · simp at hv
              · simp at hv
              · rename_i y hnd hnt hna
                simp only [Option.some.injEq, Prod.mk.injEq, true_and] at hv
                exact hone _ rfl (plain_of hnd hnt hna) hv.symm
            · simp only [ha, cond_true] at hv
              cases hle : Nat.ble (o + d.sz) fs.length
              · simp [hle] at hv
              · simp only [hle, cond_true, Option.some.injEq, Prod.mk.injEq, true_and] at hv
                subst hv
                have hle' : o + d.sz ≤ fs.length := Nat.le_of_ble_eq_true hle
                have hCs := C_sub o d.sz hx
                simp only [Nat.mul_one] at hCs hlf
                refine ⟨.agg _, load_agg hT hd ha (ds := ((((ds.drop (i * e.sz)).take e.sz).drop o).take d.sz)) ?_ ?_, ?_⟩
                · intro j w hw
                  rw [List.getElem?_take] at hw
                  split at hw
                  · exact hat0 o j w hw
                  · simp at hw
                · rw [List.length_take, List.length_drop, hlf]
                  omega
                · rw [rel_agg]
                  exact ⟨_, rfl, by simpa using C_mono (Later.refl W ok) (fun _ h => h) (R := noLoc) (fun b loc h => by simp [noLoc] at h) 1 _ _ hCs⟩
          · simp at hv
          · simp at hv
          · rename_i hna hnd hnt
            cases hao : (d.tk.isAgg || !(Nat.beq o 0))
            · simp only [hao, cond_false, Option.some.injEq, Prod.mk.injEq, true_and] at hv
              rw [Bool.or_eq_false_iff, Bool.not_eq_false'] at hao
              have ho : o = 0 := Nat.eq_of_beq_eq_true hao.2
              subst ho
              have hp' : plain v = true := by rw [← hv]; exact plain_of hnd hnt hna
              rw [hv] at hx
              obtain ⟨w, e1, _, _⟩ := X_one hp' hx
              refine ⟨w, load_one hT hd hao.1 ?_, Rel_of_Rel0 (Rel0_of_X (by cases v <;> simp_all [AV.isAgg, plain]) (X_mono (Later.refl W ok) (fun _ h => h) (R := noLoc) (fun b loc h => by simp [noLoc] at h) v _ (e1 ▸ hx)))⟩
              have := hat0 0 0 w (by rw [e1]; rfl)
              rwa [cell_add0] at this
            · simp [hao] at hv
    · simp at hv
  · simp at hv
end
end Go.RX
