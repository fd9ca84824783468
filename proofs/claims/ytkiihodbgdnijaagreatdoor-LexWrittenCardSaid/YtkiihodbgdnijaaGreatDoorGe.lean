/- plumblaw09: what made writes is read as what it says: the whole. -/
import Derived.Test.YtkiihodbgdnijaaGreatDoorGd
set_option linter.unusedVariables false
set_option linter.unusedSimpArgs false
namespace Go.RX.S
open Go Go.RX Go.Proofs

/-! ### right ones -/
theorem bared_48 {l : List UInt8} {b : UInt8} {r : List UInt8} (h : baredL l = b :: r) : (b == 48) = false := dw_head (P := (· == 48)) h
theorem plain_mk {l : List UInt8} {hex : Bool} (h : ∀ x, x ∈ l → (isD (lowX x) || (hex && isX (lowX x))) = true) (hl : l.length ≤ 65536) : plainB (bareL l) hex = true := by
  unfold plainB bareL
  have hb := bared_len l
  rw [List.length_map, decide_eq_true (by omega), Bool.true_and, Bool.and_eq_true]
  refine ⟨?_, ?_⟩
  · cases hr : baredL l with
    | nil => rfl
    | cons b r =>
      have h1 := bared_48 hr
      rw [← lowX_48] at h1
      rw [List.map_cons]
      dsimp only
      rw [bne, Bool.not_eq_true', beq_eq_false_iff_ne]
      intro e
      have : lowX b = 48 := UInt8.toNat_inj.1 e
      rw [this] at h1
      cases h1
  · rw [List.all_eq_true]
    intro x hx
    obtain ⟨y, hy, rfl⟩ := List.mem_map.1 hx
    exact h y ((List.dropWhile_sublist _).mem hy)
theorem low_D {b : UInt8} (h : isD b = true) (x : Bool) : (isD (lowX b) || (x && isX (lowX b))) = true := by rw [lowX_D h, h]; rfl
theorem low_X {b : UInt8} (h : hexB b = true) : (isD (lowX b) || (true && isX (lowX b))) = true := by
  have := u8_all (p := fun b => !(hexB b) || (isD (lowX b) || (true && isX (lowX b)))) (by decide +kernel) b
  rw [h] at this
  simpa using this
theorem check_dec {neg : Bool} {l : List UInt8} {e : Int} (h : ∀ x, x ∈ l → isD x = true) (hl : l.length ≤ 65536) (he : heldI e = e) : checkB ⟨1, neg, bareL l, e, []⟩ = true := by
  have d2 : decide ((1 : Int) = 2) = false := rfl
  have d1 : decide ((1 : Int) = 1 ∨ (1 : Int) = 2) = true := rfl
  unfold checkB
  dsimp only
  rw [d1, d2, plain_mk (fun x hx => low_D (h x hx) false) hl, decide_eq_true he]
  rfl
theorem check_hex {neg : Bool} {l : List UInt8} {e : Int} (h : ∀ x, x ∈ l → hexB x = true) (hl : l.length ≤ 65536) (he : heldI e = e) : checkB ⟨2, neg, bareL l, e, []⟩ = true := by
  have d2 : decide ((2 : Int) = 2) = true := rfl
  have d1 : decide ((2 : Int) = 1 ∨ (2 : Int) = 2) = true := rfl
  unfold checkB
  dsimp only
  rw [d1, d2, plain_mk (fun x hx => low_X (h x hx)) hl, decide_eq_true he]
  rfl
theorem check_rat {neg : Bool} {l m : List UInt8} (h : ∀ x, x ∈ l → isD x = true) (hl : l.length ≤ 65536) (h2 : ∀ x, x ∈ m → isD x = true) (hm : m.length ≤ 65536) : checkB ⟨3, neg, bareL l, 0, bareL m⟩ = true := by
  have d3 : decide ((3 : Int) = 3) = true := rfl
  have d0 : decide ((0 : Int) = 0) = true := rfl
  unfold checkB
  dsimp only
  rw [d3, d0, plain_mk (fun x hx => low_D (h x hx) false) hl, plain_mk (fun x hx => low_D (h2 x hx) false) hm]
  simp
/-- A piece, told by its sign and its body. -/
structure Read (p : Pc) (T : List UInt8) (x : Nm) (s b : List UInt8) : Prop where
  eq : T = s ++ b
  sg : s = [] ∨ ∃ c, s = [c] ∧ isS c = true
  len : b.length ≤ 130
  ck : checkB x = true
  go : ∀ rest, Ends p rest → off isS (b ++ rest) ∧ (∃ k : Int, k ≠ 0 ∧ numLen (b ++ rest) = (k, b.length)) ∧ numNm (s == [45]) (b ++ rest) = x
theorem ite_ne {h0 t0 : List UInt8} : (cond (h0.isEmpty && t0.isEmpty) [48] h0) ≠ [] ∨ t0 ≠ [] := by
  cases h0 <;> cases t0 <;> simp
theorem made_read (p : Pc) : ∃ b, Read p (madeN p).1 (madeN p).2 (signL (p.sign % 3 - 1) p.plus) b := by
  rw [madeN_15]
  generalize hsg : signL (p.sign % 3 - 1) p.plus = sg
  have hs : sg = [] ∨ ∃ c, sg = [c] ∧ isS c = true := by rw [← hsg]; exact signL_s _ _
  have hK0 := Int.emod_nonneg p.kind (by decide : (3 : Int) ≠ 0)
  have hK1 := Int.emod_lt_of_pos p.kind (by decide : (0 : Int) < 3)
  generalize p.kind % 3 = K at hK0 hK1
  have hx : ∀ (base : Int) (l : List Int), base = 10 ∨ base = 16 → (∀ x, x ∈ digsL l base p.big → hexB x = true ∧ (base = 10 → isD x = true)) := fun base l hb => digsL_ok hb
  have hlen : ∀ (base : Int) (l : List Int), (digsL l base p.big).length ≤ 40 := fun base l => digsL_len l base p.big
  by_cases k2 : K = 2
  · subst k2
    have e1 : cond (decide ((2 : Int) = 1)) (16 : Int) 10 = 10 := rfl
    have e2 : decide ((2 : Int) = 2) = true := rfl
    rw [e1]
    unfold made15
    dsimp only
    rw [e2, cond_true]
    have h1 := hx 10 p.head (.inl rfl)
    have h2 := hx 10 p.tail (.inl rfl)
    have l1 := hlen 10 p.head
    have l2 := hlen 10 p.tail
    generalize digsL p.head 10 p.big = h0 at h1 l1 ⊢
    generalize digsL p.tail 10 p.big = t0 at h2 l2 ⊢
    have hh : (cond h0.isEmpty [55] h0) ≠ [] ∧ (∀ x, x ∈ cond h0.isEmpty [55] h0 → isD x = true) ∧ (cond h0.isEmpty [55] h0).length ≤ 40 := by
      cases h0 with
      | nil => exact ⟨by decide, by decide, by decide⟩
      | cons a h0 => exact ⟨by simp, fun x hx => (h1 x hx).2 rfl, l1⟩
    have ht : (cond t0.isEmpty [48, 50] t0) ≠ [] ∧ (∀ x, x ∈ cond t0.isEmpty [48, 50] t0 → isD x = true) ∧ (cond t0.isEmpty [48, 50] t0).length ≤ 40 := by
      cases t0 with
      | nil => exact ⟨by decide, by decide, by decide⟩
      | cons a t0 => exact ⟨by simp, fun x hx => (h2 x hx).2 rfl, l2⟩
    generalize cond h0.isEmpty [55] h0 = h at hh ⊢
    generalize cond t0.isEmpty [48, 50] t0 = t at ht ⊢
    refine ⟨h ++ 47 :: t, by simp, hs, by simp only [List.length_append, List.length_cons]; omega, check_rat hh.2.1 (by omega) ht.2.1 (by omega), fun rest hr => ?_⟩
    have e : h ++ 47 :: t ++ rest = h ++ 47 :: (t ++ rest) := by simp
    obtain ⟨a, b, c⟩ := body_rat hh.1 hh.2.1 ht.1 ht.2.1 hr.d (sg == [45])
    rw [e]
    refine ⟨a, ⟨3, by decide, ?_⟩, c⟩
    rw [b, List.length_append, List.length_cons]
    congr 1
    omega
  · have d2 : decide (K = 2) = false := decide_eq_false k2
    have hb : cond (decide (K = 1)) (16 : Int) 10 = 10 ∨ cond (decide (K = 1)) (16 : Int) 10 = 16 := by cases decide (K = 1) <;> simp
    unfold made15
    dsimp only
    rw [d2, cond_false]
    have h1 := hx _ p.head hb
    have h2 := hx _ p.tail hb
    have l1 := hlen (cond (decide (K = 1)) (16 : Int) 10) p.head
    have l2 := hlen (cond (decide (K = 1)) (16 : Int) 10) p.tail
    generalize digsL p.head (cond (decide (K = 1)) (16 : Int) 10) p.big = h0 at h1 l1 ⊢
    generalize digsL p.tail (cond (decide (K = 1)) (16 : Int) 10) p.big = t0 at h2 l2 ⊢
    have hn : (cond (h0.isEmpty && t0.isEmpty) [48] h0) ≠ [] ∨ t0 ≠ [] := ite_ne
    have hh : (∀ x, x ∈ cond (h0.isEmpty && t0.isEmpty) [48] h0 → hexB x = true ∧ (K ≠ 1 → isD x = true)) ∧ (cond (h0.isEmpty && t0.isEmpty) [48] h0).length ≤ 40 := by
      have key : ∀ x, x ∈ h0 → hexB x = true ∧ (K ≠ 1 → isD x = true) := fun x hx => ⟨(h1 x hx).1, fun hk => (h1 x hx).2 (by rw [decide_eq_false hk]; rfl)⟩
      cases h0.isEmpty && t0.isEmpty
      · exact ⟨key, l1⟩
      · refine ⟨fun x hx => ?_, by simp⟩
        have : x = 48 := by simpa using hx
        subst this
        exact ⟨by decide, fun _ => by decide⟩
    have ht : ∀ x, x ∈ t0 → hexB x = true ∧ (K ≠ 1 → isD x = true) := fun x hx => ⟨(h2 x hx).1, fun hk => (h2 x hx).2 (by rw [decide_eq_false hk]; rfl)⟩
    generalize cond (h0.isEmpty && t0.isEmpty) [48] h0 = h at hn hh ⊢
    have hd : (!t0.isEmpty || p.point) = false → t0 = [] := by
      intro hd
      cases t0 with
      | nil => rfl
      | cons a t => simp at hd
    have hpt : (!t0.isEmpty || p.point) = false → p.point = false := by
      intro hd
      rw [Bool.or_eq_false_iff] at hd
      exact hd.2
    generalize (!t0.isEmpty || p.point) = d at hd hpt ⊢
    have hbody : cond d (h ++ [46] ++ t0) h = h ++ cond d (46 :: t0) [] := by cases d <;> simp
    obtain ⟨q1, q2⟩ := tmod_b p.e
    generalize p.e.tmod 100000 = e at q1 q2 ⊢
    have hel : (Lib.decDigits e.natAbs).length ≤ 6 := by
      rw [Lib.decDigits_length]
      exact nDigits_le 5 e.natAbs (by omega)
    have hsl := signL_len e p.plus
    obtain ⟨D1, D2, D3⟩ := dec_D e.natAbs
    have hV := expV_dec p.plus (e := e) (by omega)
    have hS := signL_s e p.plus
    unfold made47
    dsimp only
    rw [hbody]
    generalize signL e p.plus = s2 at hsl hV hS ⊢
    generalize Lib.decDigits e.natAbs = ds at hel D1 D2 D3 hV ⊢
    have hoff : ∀ (d : Bool) (rest : List UInt8), Ends p rest → d = false → p.point = false → off (· == 46) rest ∧ off (· == 47) rest ∧ off (fun b => b == 120 || b == 88) rest := by
      intro d rest hr _ hp
      rcases hr.o with h | h
      · rw [h] at hp
        cases hp
      · exact h
    have dlen : (cond d (46 :: t0) []).length ≤ 41 := by
      cases d
      · exact Nat.zero_le _
      · simp only [cond_true, List.length_cons]
        omega
    have dlen2 : (cond d (46 :: t0) []).length = cond d (1 + t0.length) 0 := by
      cases d
      · rfl
      · simp only [cond_true, List.length_cons]
        omega
    by_cases k1 : K = 1
    · rw [decide_eq_true k1, cond_true]
      obtain ⟨X, hX, hX2⟩ : ∃ X : UInt8, (X = 120 ∨ X = 88) ∧ cond p.big (88 : UInt8) 120 = X := ⟨_, by cases p.big <;> simp, rfl⟩
      obtain ⟨E, hE, hE2⟩ : ∃ E : UInt8, (E = 112 ∨ E = 80) ∧ cond p.big (80 : UInt8) 112 = E := ⟨_, by cases p.big <;> simp, rfl⟩
      rw [hX2, hE2]
      refine ⟨48 :: X :: (h ++ (cond d (46 :: t0) [] ++ E :: (s2 ++ ds))), by simp, hs, by simp only [List.length_append, List.length_cons]; omega, check_hex (fun x hx => (List.mem_append.1 hx).elim (fun hx => (hh.1 x hx).1) (fun hx => (ht x hx).1)) (by rw [List.length_append]; omega) (held_id (by omega) (by omega)), fun rest hr => ?_⟩
      have eq : 48 :: X :: (h ++ (cond d (46 :: t0) [] ++ E :: (s2 ++ ds))) ++ rest = 48 :: X :: (h ++ (cond d (46 :: t0) [] ++ E :: (s2 ++ (ds ++ rest)))) := by simp
      have hex := expo_mk (x := 112) (y := 80) hE hS D3 D1 hr.d
      have hne : s2 ++ ds ≠ [] := fun h => D3 (List.append_eq_nil_iff.1 h).2
      obtain ⟨a, b, c⟩ := body_hex (q := E :: (s2 ++ (ds ++ rest))) (d := d) hX (fun x hx => (hh.1 x hx).1) (fun x hx => (ht x hx).1) hd hn (off_cons (by rcases hE with rfl | rfl <;> decide)) (fun _ => off_cons (by rcases hE with rfl | rfl <;> decide)) (by rw [hex]; exact hne) (sg == [45])
      rw [eq]
      refine ⟨a, ⟨2, by decide, ?_⟩, ?_⟩
      · rw [b, hex]
        simp only [List.length_append, List.length_cons, dlen2]
        congr 1
        omega
      · rw [c, hex, hV, held_id (by omega) (by omega)]
    · rw [decide_eq_false k1, cond_false]
      have hhD : ∀ x, x ∈ h → isD x = true := fun x hx => (hh.1 x hx).2 k1
      have htD : ∀ x, x ∈ t0 → isD x = true := fun x hx => (ht x hx).2 k1
      cases p.noexp
      · rw [cond_false]
        obtain ⟨E, hE, hE2⟩ : ∃ E : UInt8, (E = 101 ∨ E = 69) ∧ cond p.big (69 : UInt8) 101 = E := ⟨_, by cases p.big <;> simp, rfl⟩
        rw [hE2]
        refine ⟨h ++ (cond d (46 :: t0) [] ++ E :: (s2 ++ ds)), by simp, hs, by simp only [List.length_append, List.length_cons]; omega, check_dec (fun x hx => (List.mem_append.1 hx).elim (hhD x) (htD x)) (by rw [List.length_append]; omega) (held_id (by omega) (by omega)), fun rest hr => ?_⟩
        have eq : h ++ (cond d (46 :: t0) [] ++ E :: (s2 ++ ds)) ++ rest = h ++ (cond d (46 :: t0) [] ++ E :: (s2 ++ (ds ++ rest))) := by simp
        have hex := expo_mk (x := 101) (y := 69) hE hS D3 D1 hr.d
        have hne : s2 ++ ds ≠ [] := fun h => D3 (List.append_eq_nil_iff.1 h).2
        obtain ⟨a, b, c⟩ := body_dec (q := E :: (s2 ++ (ds ++ rest))) (d := d) hhD htD hd hn (off_cons (by rcases hE with rfl | rfl <;> decide)) (fun _ => off_cons (by rcases hE with rfl | rfl <;> decide)) (fun _ => off_cons (by rcases hE with rfl | rfl <;> decide)) (fun _ => off_cons (by rcases hE with rfl | rfl <;> decide)) (sg == [45])
        rw [eq]
        refine ⟨a, ⟨1, by decide, ?_⟩, ?_⟩
        · rw [b, eLen_ne hex hne]
          simp only [List.length_append, List.length_cons, dlen2]
          congr 1
          omega
        · rw [c, hex, hV, held_id (by omega) (by omega)]
      · rw [cond_true]
        refine ⟨h ++ cond d (46 :: t0) [], by simp, hs, by simp only [List.length_append]; omega, check_dec (fun x hx => (List.mem_append.1 hx).elim (hhD x) (htD x)) (by rw [List.length_append]; omega) (held_id (by omega) (by omega)), fun rest hr => ?_⟩
        have eq : h ++ cond d (46 :: t0) [] ++ rest = h ++ (cond d (46 :: t0) [] ++ rest) := by simp
        have hex := expo_off hr.e
        obtain ⟨a, b, c⟩ := body_dec (q := rest) (d := d) hhD htD hd hn hr.d (fun e => (hoff d rest hr e (hpt e)).1) (fun e => (hoff d rest hr e (hpt e)).2.1) (fun e => (hoff d rest hr e (hpt e)).2.2) (sg == [45])
        rw [eq]
        refine ⟨a, ⟨1, by decide, ?_⟩, ?_⟩
        · rw [b, eLen_nil hex]
          simp only [List.length_append, dlen2]
          rfl
        · have v0 : expV [] = 0 := rfl
          rw [c, hex, v0, held_id (by omega) (by omega)]
          simp
theorem made_len (p : Pc) : (madeN p).1.length ≤ 131 := by
  obtain ⟨b, h⟩ := made_read p
  have := h.len
  rw [h.eq, List.length_append]
  have := signL_len (p.sign % 3 - 1) p.plus
  omega
theorem made_gram {p : Pc} {rest : List UInt8} (he : Ends p rest) (pre : List UInt8) : gramN (pre ++ ((madeN p).1 ++ rest)) pre.length = ((madeN p).2, (pre.length : Int) + (madeN p).1.length, none) := by
  obtain ⟨b, h⟩ := made_read p
  have hl := made_len p
  rw [gram_long, List.take_append, List.take_of_length_le (by omega)]
  obtain ⟨a1, ⟨k, hk, a2⟩, a3⟩ := h.go _ (he.take (65536 - (madeN p).1.length))
  have e : (madeN p).1 ++ rest.take (65536 - (madeN p).1.length) = signL (p.sign % 3 - 1) p.plus ++ (b ++ rest.take (65536 - (madeN p).1.length)) := by
    conv => lhs; arg 1; rw [h.eq]
    rw [List.append_assoc]
  rw [gram_at (x := (madeN p).2) e (by rw [List.length_append, List.length_take]; omega) h.sg a1 hk a2 (by rw [e, neg_s h.sg a1]; exact a3)]
  have : (madeN p).1.length = (signL (p.sign % 3 - 1) p.plus).length + b.length := by rw [h.eq, List.length_append]
  rw [this]
end Go.RX.S
