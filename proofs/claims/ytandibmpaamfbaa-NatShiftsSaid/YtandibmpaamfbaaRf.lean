/- The operations that make no memory: cuts of slices and texts, structs that are built, lengths; and all of them together. -/
import Derived.Test.YtandibmpaamfbaaRe
set_option linter.unusedVariables false
set_option linter.unusedSimpArgs false
namespace Go.RX
section
variable {P : Program} {tab : Tab} {W : World} {ok : Nat → Prop} {ρ : Nat → Option Nat} {H : List Blk} {R : Nat → Option Loc}

theorem cutOk_spec {a b m : Option Int} {n : Nat} (h : cutOk a b m n = true) :
    0 ≤ a.getD 0 ∧ a.getD 0 ≤ b.getD (n : Int) ∧ b.getD (n : Int) ≤ n ∧ (∀ m', m = some m' → b.isSome = true ∧ b.getD (n : Int) ≤ m' ∧ m' ≤ n) := by
  unfold cutOk at h
  split at h <;> (try simp only [Bool.and_eq_true, decide_eq_true_eq] at h) <;> simp
  all_goals first | omega | (cases h)

/-- The bounds as the machine has them. -/
def BV (R' : Option Value) (x : Option Int) : Prop := match R', x with
  | none, none => True
  | some v, some n => ∃ k, v = .int k n
  | _, _ => False

theorem optInt_ok {ev : Operand → AV} {rv : Operand → Value} {o : Option Operand} {x : Option Int} (h : optInt ev o = some x) (hr : ∀ p, o = some p → Rel W ok R (ev p) (rv p)) : BV (o.map rv) x := by
  cases o with
  | none => simp only [optInt, Option.some.injEq] at h; subst h; trivial
  | some p =>
    simp only [optInt] at h
    split at h
    · rename_i k n he
      simp only [Option.some.injEq] at h
      subst h
      have := hr p rfl
      rw [he, rel_int] at this
      exact ⟨k, this⟩
    · simp at h

theorem sliceBound_run {k : IntKind} {n : Int} {y : Nat} {code : BoundsCode} (h0 : 0 ≤ n) (h1 : n ≤ y) : (Instr.sliceBound (.int k n) y code).run P W = .ok n.toNat W := by
  simp [Instr.sliceBound, asIntOf, h0, h1]

theorem bounds_run {s : Bool} {len cap : Nat} {lo hi mx : Option Value} {a b m : Option Int} (ha : BV lo a) (hb : BV hi b) (hm : BV mx m) (hlc : len ≤ cap)
    (h0 : 0 ≤ a.getD 0) (h1 : a.getD 0 ≤ b.getD (len : Int)) (h2 : b.getD (len : Int) ≤ len) (h3 : ∀ m', m = some m' → b.isSome = true ∧ b.getD (len : Int) ≤ m' ∧ m' ≤ len) :
    (Instr.sliceBounds s len cap lo hi mx).run P W = .ok ((a.getD 0).toNat, (b.getD (len : Int)).toNat, (m.getD (cap : Int)).toNat) W := by
  cases lo <;> cases a <;> simp only [BV] at ha <;> cases hi <;> cases b <;> simp only [BV] at hb <;> cases mx <;> cases m <;> simp only [BV] at hm
  all_goals (try (obtain ⟨_, rfl⟩ := ha)); (try (obtain ⟨_, rfl⟩ := hb)); (try (obtain ⟨_, rfl⟩ := hm)); simp only [Option.getD_some, Option.getD_none, Option.isSome_some, Option.isSome_none, Option.some.injEq, forall_eq', Bool.false_eq_true, false_and] at h0 h1 h2 h3
  case none.none.none.none.none.none => simp [Instr.sliceBounds]
  case none.none.some.some.none.none v b =>
    simp only [Instr.sliceBounds, Sem.run_bind, Sem.run_pure, Result.andThen_ok]
    rw [sliceBound_run (by omega) (by omega)]
    simp
  case none.none.some.some.some.some v b v' m =>
    simp only [Instr.sliceBounds, Sem.run_bind, Sem.run_pure, Result.andThen_ok]
    rw [sliceBound_run (by omega) (by omega)]
    simp only [Result.andThen_ok]
    rw [sliceBound_run (by omega) (by omega)]
    simp
  case some.some.none.none.none.none =>
    simp only [Instr.sliceBounds, Sem.run_bind, Sem.run_pure, Result.andThen_ok]
    rw [sliceBound_run (by omega) (by omega)]
    simp
  case some.some.some.some.none.none =>
    simp only [Instr.sliceBounds, Sem.run_bind, Sem.run_pure, Result.andThen_ok]
    rw [sliceBound_run (by omega) (by omega)]
    simp only [Result.andThen_ok]
    rw [sliceBound_run (by omega) (by omega)]
    simp
  case some.some.some.some.some.some =>
    simp only [Instr.sliceBounds, Sem.run_bind, Sem.run_pure, Result.andThen_ok]
    rw [sliceBound_run (by omega) (by omega)]
    simp only [Result.andThen_ok]
    rw [sliceBound_run (by omega) (by omega)]
    simp only [Result.andThen_ok]
    rw [sliceBound_run (by omega) (by omega)]
    simp

theorem cutL_eq {α : Type} (l : List α) (a b : Option Int) : cutL l a b = (l.take (b.getD (l.length : Int)).toNat).drop (a.getD 0).toNat := by
  unfold cutL
  cases a <;> cases b <;> simp
theorem cutL_length {α : Type} (l : List α) (a b : Option Int) (h2 : b.getD (l.length : Int) ≤ l.length) : (cutL l a b).length = (b.getD (l.length : Int)).toNat - (a.getD 0).toNat := by
  rw [cutL_eq, List.length_drop, List.length_take]
  omega

theorem slice_run (hT : TabOk P tab) {t e : Nat} {d : TyD} (hd : P.underlying t = some (.slice e)) (hde : tab e = some d) {A : Option Addr} {len cap : Nat} {lo hi mx : Option Value} {l h m : Nat}
    (hb : (Instr.sliceBounds true len cap lo hi mx).run P W = .ok (l, h, m) W) :
    (Instr.sliceAt t (.slice A len cap) lo hi mx).run P W = .ok (.slice (if m = l then A else A.map (·.add (l * d.sz))) (h - l) (m - l)) W := by
  obtain ⟨z, hz⟩ := hT _ _ hde
  simp [Instr.sliceAt, Instr.slice, run_underlying hd, hb, hz.sizeOf]

theorem pvSlice_ok (hT : TabOk P tab) {ev : Operand → AV} {rv : Operand → Value} {t : Nat} {x v : AV} {u : Value} {lo hi mx : Option Operand} (h : pvSlice tab ev H t x lo hi mx = some (true, v)) (h1 : Rel W ok (locs ρ H) x u)
    (hl : ∀ p, lo = some p → Rel W ok (locs ρ H) (ev p) (rv p)) (hh : ∀ p, hi = some p → Rel W ok (locs ρ H) (ev p) (rv p)) (hm : ∀ p, mx = some p → Rel W ok (locs ρ H) (ev p) (rv p)) :
    Res P W ok (locs ρ H) (Instr.sliceAt t u (lo.map rv) (hi.map rv) (mx.map rv)) v := by
  unfold pvSlice at h
  split at h
  · rename_i a b m ha hb hmm
    have Ba := optInt_ok ha hl
    have Bb := optInt_ok hb hh
    have Bm := optInt_ok hmm hm
    split at h
    · rename_i e _ _ _ _ ht
      obtain ⟨z, hz⟩ := hT _ _ ht
      have hd : P.underlying t = some (.slice e) := hz.desc
      split at h
      · rename_i d hd'
        split at h
        · rename_i k l
          cases hc : Nat.beq d.sz 1
          · simp [hc] at h
          · have hs : d.sz = 1 := Nat.eq_of_beq_eq_true hc
            simp only [hc, cond_true, Option.some.injEq, Prod.mk.injEq] at h
            obtain ⟨hok, rfl⟩ := h
            obtain ⟨q0, q1, q2, q3⟩ := cutOk_spec hok
            rw [rel_ints] at h1
            obtain ⟨A, c, rfl, hlc, hat⟩ := h1
            have hrun := slice_run (P := P) (W := W) hT hd hd' (A := A) (bounds_run (P := P) (W := W) (s := true) Ba Bb Bm hlc q0 q1 q2 q3)
            refine ⟨_, hrun, ?_⟩
            rw [rel_ints, cutL_length _ _ _ q2]
            refine ⟨_, _, rfl, ?_, ?_⟩
            · cases m with
              | none => simp only [Option.getD_none]; omega
              | some m => have := q3 m rfl; simp only [Option.getD_some]; omega
            · rcases Nat.eq_zero_or_pos (cutL l a b).length with h0 | h0
              · exact .inl (List.eq_nil_of_length_eq_zero h0)
              · rw [cutL_length _ _ _ q2] at h0
                rcases hat with rfl | ⟨ad, rfl, hok', hat⟩
                · simp at q2; simp at h0; omega
                · refine .inr ⟨ad.add ((a.getD 0).toNat * d.sz), ?_, by rwa [block_add], ?_⟩
                  · rw [if_neg]
                    · rfl
                    · cases m with
                      | none => simp only [Option.getD_none]; omega
                      | some m => have := q3 m rfl; simp only [Option.getD_some]; omega
                  · rw [hs, Nat.mul_one, cutL_eq, List.map_drop, List.map_take]
                    have := At_sub hat (a.getD 0).toNat (((b.getD (l.length : Int)).toNat) - (a.getD 0).toNat)
                    rwa [List.drop_take]
        · rename_i et l
          cases hc : Nat.beq d.sz et.sz
          · simp [hc] at h
          · have hs : d.sz = et.sz := Nat.eq_of_beq_eq_true hc
            simp only [hc, cond_true, Option.some.injEq, Prod.mk.injEq] at h
            obtain ⟨hok, rfl⟩ := h
            obtain ⟨q0, q1, q2, q3⟩ := cutOk_spec hok
            rw [rel_list] at h1
            obtain ⟨A, c, rfl, hlc, hwt, hat⟩ := h1
            have hrun := slice_run (P := P) (W := W) hT hd hd' (A := A) (bounds_run (P := P) (W := W) (s := true) Ba Bb Bm hlc q0 q1 q2 q3)
            refine ⟨_, hrun, ?_⟩
            rw [rel_list, cutL_length _ _ _ q2]
            refine ⟨_, _, rfl, ?_, ?_, ?_⟩
            · cases m with
              | none => simp only [Option.getD_none]; omega
              | some m => have := q3 m rfl; simp only [Option.getD_some]; omega
            · intro x hx
              rw [cutL_eq] at hx
              exact hwt x (List.mem_of_mem_take (List.mem_of_mem_drop hx))
            · rcases Nat.eq_zero_or_pos (cutL l a b).length with h0 | h0
              · exact .inl (List.eq_nil_of_length_eq_zero h0)
              · rw [cutL_length _ _ _ q2] at h0
                rcases hat with rfl | ⟨ad, ds, rfl, hok', hat, hlen, hC⟩
                · simp at q2; simp at h0; omega
                · refine .inr ⟨ad.add ((a.getD 0).toNat * d.sz), (ds.drop ((a.getD 0).toNat * et.sz)).take (((b.getD (l.length : Int)).toNat - (a.getD 0).toNat) * et.sz), ?_, by rwa [block_add], ?_, ?_, ?_⟩
                  · rw [if_neg]
                    · rfl
                    · cases m with
                      | none => simp only [Option.getD_none]; omega
                      | some m => have := q3 m rfl; simp only [Option.getD_some]; omega
                  · rw [hs]
                    exact At_sub hat _ _
                  · rw [List.length_take, List.length_drop, hlen, ← Nat.sub_mul]
                    apply Nat.min_eq_left
                    apply Nat.mul_le_mul_right
                    omega
                  · rw [cutL_eq, List.drop_take]
                    exact C_sub _ _ hC
        · simp only [Option.some.injEq, Prod.mk.injEq] at h
          obtain ⟨hok, rfl⟩ := h
          obtain ⟨q0, q1, q2, q3⟩ := cutOk_spec hok
          rw [rel_nilS] at h1
          subst h1
          have hrun := slice_run (P := P) (W := W) hT hd hd' (A := none) (bounds_run (P := P) (W := W) (s := true) Ba Bb Bm (Nat.le_refl 0) q0 q1 q2 q3)
          refine ⟨_, hrun, ?_⟩
          rw [rel_nilS]
          have : (b.getD ((0 : Nat) : Int)).toNat = 0 := by omega
          have hm0 : (m.getD ((0 : Nat) : Int)).toNat = 0 := by
            cases m with
            | none => rfl
            | some m => have := q3 m rfl; simp only [Option.getD_some]; omega
          have e1 : (b.getD ((0 : Nat) : Int)).toNat - (a.getD 0).toNat = 0 := by omega
          have e2 : (m.getD ((0 : Nat) : Int)).toNat - (a.getD 0).toNat = 0 := by omega
          rw [e1, e2]
          split <;> rfl
        · rename_i bl sz
          cases hc : Nat.beq d.sz sz
          · simp [hc] at h
          · have hs : d.sz = sz := Nat.eq_of_beq_eq_true hc
            simp only [hc, cond_true, Option.some.injEq, Prod.mk.injEq] at h
            obtain ⟨hok, rfl⟩ := h
            obtain ⟨q0, q1, q2, q3⟩ := cutOk_spec hok
            rw [rel_vec] at h1
            obtain ⟨loc, hloc, h1⟩ := h1
            obtain ⟨hlive, hg, hlen⟩ := locs_some hloc
            rw [← hlen] at q1 q2 q3 hok ⊢
            rcases h1 with ⟨hg0, hn0, rfl⟩ | ⟨g, c, T, mm, hg', rfl, hc', hsh, hmm⟩
            · have hrun := slice_run (P := P) (W := W) hT hd hd' (A := none) (bounds_run (P := P) (W := W) (s := true) Ba Bb Bm (Nat.le_refl 0) q0 (by rw [← hn0]; exact q1) (by rw [← hn0]; exact q2) (by rw [← hn0]; exact q3))
              refine ⟨_, hrun, ?_⟩
              rw [rel_ref]
              left
              rw [hn0] at q1 q2 q3 ⊢
              have : (b.getD ((0 : Nat) : Int)).toNat = 0 := by omega
              have hm0 : (m.getD ((0 : Nat) : Int)).toNat = 0 := by
                cases m with
                | none => rfl
                | some m => have := q3 m rfl; simp only [Option.getD_some]; omega
              have e1 : (b.getD ((0 : Nat) : Int)).toNat - (a.getD 0).toNat = 0 := by omega
              have e2 : (m.getD ((0 : Nat) : Int)).toNat - (a.getD 0).toNat = 0 := by omega
              refine ⟨by omega, ?_, by rw [e1, e2]; split <;> rfl⟩
              intro c' hc'
              cases m with
              | none => simp at hc'
              | some m =>
                have := q3 m rfl
                simp only [Option.map_some, Option.some.injEq] at hc'
                omega
            · have hrun := slice_run (P := P) (W := W) hT hd hd' (A := some ⟨g, 0, none⟩) (bounds_run (P := P) (W := W) (s := true) Ba Bb Bm hc' q0 q1 q2 q3)
              refine ⟨_, hrun, ?_⟩
              rw [rel_ref]
              right
              have hmc : (m.getD (c : Int)).toNat ≤ c ∧ (b.getD (loc.n : Int)).toNat ≤ (m.getD (c : Int)).toNat := by
                cases m with
                | none => simp only [Option.getD_none]; omega
                | some m => have := q3 m rfl; simp only [Option.getD_some]; omega
              by_cases hml : (m.getD (c : Int)).toNat = (a.getD 0).toNat
              · refine ⟨loc, g, (m.getD (c : Int)).toNat - (a.getD 0).toNat, 0, T, mm, hloc, hg', ?_, by omega, ?_, by omega, hsh, ?_, by omega⟩
                · rw [if_pos hml]
                  congr 1
                  omega
                · intro c' hc'
                  cases m with
                  | none => simp at hc'
                  | some m =>
                    simp only [Option.map_some, Option.some.injEq, Option.getD_some] at hc' ⊢
                    omega
                · refine Nat.le_trans (Nat.mul_le_mul_right _ ?_) hmm
                  omega
              · refine ⟨loc, g, (m.getD (c : Int)).toNat - (a.getD 0).toNat, (a.getD 0).toNat * sz, T, mm, hloc, hg', ?_, by omega, ?_, fun _ => rfl, hsh, ?_, by omega⟩
                · rw [if_neg hml, hs]
                  have : (b.getD (loc.n : Int)).toNat - (a.getD 0).toNat = (b.getD (loc.n : Int) - a.getD 0).toNat := by omega
                  rw [this]
                  simp only [Option.map_some, Addr.add]
                  by_cases hz0 : (a.getD 0).toNat * sz = 0 <;> simp [hz0]
                · intro c' hc'
                  cases m with
                  | none => simp at hc'
                  | some m =>
                    simp only [Option.map_some, Option.some.injEq, Option.getD_some] at hc' ⊢
                    omega
                · refine Nat.le_trans (Nat.mul_le_mul_right _ ?_) hmm
                  omega
        · rename_i bl sz off len cap
          cases hc : Nat.beq d.sz sz
          · simp [hc] at h
          · have hs : d.sz = sz := Nat.eq_of_beq_eq_true hc
            simp only [hc, cond_true, Option.some.injEq, Prod.mk.injEq] at h
            obtain ⟨hok, rfl⟩ := h
            obtain ⟨q0, q1, q2, q3⟩ := cutOk_spec hok
            rw [rel_ref] at h1
            rcases h1 with ⟨hl0, hc0, rfl⟩ | ⟨loc, g, c, o, T, mm, hloc, hg, rfl, hlc, hcap, ho, hsh, hmm, hln⟩
            · subst hl0
              have hrun := slice_run (P := P) (W := W) hT hd hd' (A := none) (bounds_run (P := P) (W := W) (s := true) Ba Bb Bm (Nat.le_refl 0) q0 q1 q2 q3)
              refine ⟨_, hrun, ?_⟩
              rw [rel_ref]
              left
              have : (b.getD ((0 : Nat) : Int)).toNat = 0 := by omega
              have hm0 : (m.getD ((0 : Nat) : Int)).toNat = 0 := by
                cases m with
                | none => rfl
                | some m => have := q3 m rfl; simp only [Option.getD_some]; omega
              have e1 : (b.getD ((0 : Nat) : Int)).toNat - (a.getD 0).toNat = 0 := by omega
              have e2 : (m.getD ((0 : Nat) : Int)).toNat - (a.getD 0).toNat = 0 := by omega
              refine ⟨by omega, ?_, by rw [e1, e2]; split <;> rfl⟩
              intro c' hc'
              cases m with
              | none =>
                obtain ⟨c1, h1, h2⟩ := Option.map_eq_some_iff.1 hc'
                have := hc0 _ h1
                omega
              | some m =>
                have := q3 m rfl
                simp only [Option.some.injEq] at hc'
                omega
            · have hrun := slice_run (P := P) (W := W) hT hd hd' (A := some ⟨g, o, none⟩) (bounds_run (P := P) (W := W) (s := true) Ba Bb Bm hlc q0 q1 q2 q3)
              refine ⟨_, hrun, ?_⟩
              rw [rel_ref]
              right
              have hmc : (m.getD (c : Int)).toNat ≤ c ∧ (b.getD (len : Int)).toNat ≤ (m.getD (c : Int)).toNat := by
                cases m with
                | none => simp only [Option.getD_none]; omega
                | some m => have := q3 m rfl; simp only [Option.getD_some]; omega
              have hcp : ∀ c', (match m with | some m => some (m - a.getD 0).toNat | none => cap.map fun c => c - (a.getD 0).toNat) = some c' → (m.getD (c : Int)).toNat - (a.getD 0).toNat = c' := by
                intro c' hc'
                cases m with
                | none =>
                  obtain ⟨c1, h1, h2⟩ := Option.map_eq_some_iff.1 hc'
                  have := hcap _ h1
                  simp only [Option.getD_none]
                  omega
                | some m =>
                  simp only [Option.some.injEq, Option.getD_some] at hc' ⊢
                  omega
              have hbd : (off + (a.getD 0).toNat + ((m.getD (c : Int)).toNat - (a.getD 0).toNat)) * sz ≤ mm :=
                Nat.le_trans (Nat.mul_le_mul_right _ (by omega)) hmm
              by_cases hml : (m.getD (c : Int)).toNat = (a.getD 0).toNat
              · refine ⟨loc, g, (m.getD (c : Int)).toNat - (a.getD 0).toNat, o, T, mm, hloc, hg, ?_, by omega, hcp, by omega, hsh, hbd, by omega⟩
                rw [if_pos hml]
                congr 1
                omega
              · refine ⟨loc, g, (m.getD (c : Int)).toNat - (a.getD 0).toNat, (off + (a.getD 0).toNat) * sz, T, mm, hloc, hg, ?_, by omega, hcp, fun _ => rfl, hsh, hbd, by omega⟩
                rw [if_neg hml, hs, ho (by omega)]
                have : (b.getD (len : Int)).toNat - (a.getD 0).toNat = (b.getD (len : Int) - a.getD 0).toNat := by omega
                rw [this]
                simp only [Option.map_some, Addr.add, Nat.add_mul]
                by_cases hz0 : (a.getD 0).toNat * sz = 0 <;> simp [hz0]
        · simp at h
      · simp at h
    · rename_i ht
      obtain ⟨z, hz⟩ := hT _ _ ht
      have hd : P.underlying t = some .string := hz.desc
      split at h
      · rename_i s
        simp only [Option.some.injEq, Prod.mk.injEq] at h
        obtain ⟨hok, rfl⟩ := h
        obtain ⟨q0, q1, q2, q3⟩ := cutOk_spec hok
        rw [rel_str] at h1
        subst h1
        have hb' := bounds_run (P := P) (W := W) (s := false) Ba Bb (show BV none none from trivial) (Nat.le_refl s.size) q0 q1 q2 q3
        have hmx : mx = none := by
          cases mx with
          | none => rfl
          | some p => simp [BV] at Bm
        subst hmx
        refine res_str ?_
        simp [Instr.sliceAt, Instr.slice, run_underlying hd, hb']
      · simp at h
    · simp at h
  · simp at h
end
end Go.RX
