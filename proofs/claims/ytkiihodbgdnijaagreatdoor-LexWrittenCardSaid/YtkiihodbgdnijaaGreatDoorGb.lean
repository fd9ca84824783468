/- What a piece says, by its parts. -/
import Derived.Test.YtkiihodbgdnijaaGreatDoorGa
set_option linter.unusedVariables false
set_option linter.unusedSimpArgs false
namespace Go.RX.S
open Go Go.RX Go.Proofs

theorem u8_all {p : UInt8 → Bool} (h : ((List.range 256).all fun n => p (UInt8.ofNat n)) = true) (b : UInt8) : p b = true := by
  have := List.all_eq_true.1 h b.toNat (by simpa using b.toNat_lt)
  simpa using this
theorem tw_all (P : UInt8 → Bool) : ∀ (l : List UInt8) (x : UInt8), x ∈ l.takeWhile P → P x = true
  | [], x, h => by simp at h
  | b :: l, x, h => by
    rw [List.takeWhile_cons] at h
    cases hb : P b
    · rw [hb] at h
      simp at h
    · rw [hb] at h
      simp only [if_true, List.mem_cons] at h
      rcases h with rfl | h
      · exact hb
      · exact tw_all P l x h
def dotP (p : List UInt8 × Bool × List UInt8 × List UInt8) : List UInt8 := cond p.2.1 (46 :: p.2.2.1) []
theorem dotP_len (p : List UInt8 × Bool × List UInt8 × List UInt8) : (p.1 ++ dotP p).length = pLen p := by
  unfold dotP pLen
  rw [List.length_append]
  cases p.2.1
  · rfl
  · simp only [cond_true, List.length_cons]
    omega
theorem parts_eq (P : UInt8 → Bool) (l : List UInt8) : l = (parts P l).1 ++ dotP (parts P l) ++ (parts P l).2.2.2 := by
  have h := List.takeWhile_append_dropWhile (p := P) (l := l)
  unfold parts dotP
  cases hr : l.dropWhile P with
  | nil =>
    rw [hr] at h
    simpa using h.symm
  | cons b r =>
    rw [hr] at h
    dsimp only
    cases hc : (b == 46 && !((l.takeWhile P).isEmpty && (r.takeWhile P).isEmpty))
    · simpa using h.symm
    · rw [Bool.and_eq_true, beq_iff_eq] at hc
      have h2 := List.takeWhile_append_dropWhile (p := P) (l := r)
      simp only [cond_true]
      rw [List.append_assoc, List.cons_append, h2, ← hc.1]
      exact h.symm
theorem parts_all (P : UInt8 → Bool) (l : List UInt8) : (∀ x, x ∈ (parts P l).1 → P x = true) ∧ (∀ x, x ∈ (parts P l).2.2.1 → P x = true) ∧ ((parts P l).2.1 = false → (parts P l).2.2.1 = []) := by
  unfold parts
  cases hr : l.dropWhile P with
  | nil => exact ⟨fun x h => tw_all P l x h, fun x h => by simp at h, fun _ => rfl⟩
  | cons b r =>
    dsimp only
    cases hc : (b == 46 && !((l.takeWhile P).isEmpty && (r.takeWhile P).isEmpty))
    · exact ⟨fun x h => tw_all P l x h, fun x h => by simp at h, fun _ => rfl⟩
    · exact ⟨fun x h => tw_all P l x h, fun x h => tw_all P r x h, fun h => by cases h⟩

/-! ### exponents -/
theorem expo_cons (x y b : UInt8) (r : List UInt8) : expo x y (b :: r) = cond (b == x || b == y) (expTxt r) [] := rfl
def eTxt (x y : UInt8) (l : List UInt8) : List UInt8 := match l with
  | b :: r => cond (expo x y (b :: r)).isEmpty [] (b :: expo x y (b :: r))
  | [] => []
theorem eTxt_len (x y : UInt8) (l : List UInt8) : (eTxt x y l).length = eLen x y l := by
  cases l with
  | nil => rfl
  | cons b r =>
    unfold eTxt eLen
    dsimp only
    cases (expo x y (b :: r)).isEmpty
    · simp only [cond_false, List.length_cons]
      omega
    · rfl
theorem expTxt_pre (l : List UInt8) : ∃ q, l = expTxt l ++ q := by
  unfold expTxt
  cases ((l.drop (sgn l)).takeWhile isD).isEmpty
  · refine ⟨(l.drop (sgn l)).dropWhile isD, ?_⟩
    simp only [cond_false]
    rw [List.append_assoc, List.takeWhile_append_dropWhile, List.take_append_drop]
  · exact ⟨l, rfl⟩
theorem eTxt_pre (x y : UInt8) (l : List UInt8) : ∃ q, l = eTxt x y l ++ q := by
  cases l with
  | nil => exact ⟨[], rfl⟩
  | cons b r =>
    unfold eTxt
    dsimp only
    cases he : (expo x y (b :: r)).isEmpty
    · simp only [cond_false]
      rw [expo_cons] at he ⊢
      cases hb : (b == x || b == y)
      · simp [hb] at he
      · obtain ⟨q, hq⟩ := expTxt_pre r
        refine ⟨q, ?_⟩
        simp only [hb, cond_true]
        rw [List.cons_append, ← hq]
    · exact ⟨b :: r, rfl⟩
theorem sgn_take {l : List UInt8} {x : UInt8} (h : x ∈ l.take (sgn l)) : isS x = true := by
  cases l with
  | nil => simp at h
  | cons b r =>
    cases hb : isS b
    · simp [sgn, hb] at h
    · simp [sgn, hb] at h
      rw [h]
      exact hb
theorem expTxt_all {l : List UInt8} {x : UInt8} (h : x ∈ expTxt l) : isS x = true ∨ isD x = true := by
  unfold expTxt at h
  cases hc : ((l.drop (sgn l)).takeWhile isD).isEmpty
  · rw [hc, cond_false, List.mem_append] at h
    rcases h with h | h
    · exact .inl (sgn_take h)
    · exact .inr (tw_all isD _ x h)
  · rw [hc] at h
    cases h
theorem expo_all {x y : UInt8} {l : List UInt8} {c : UInt8} (h : c ∈ expo x y l) : isS c = true ∨ isD c = true := by
  cases l with
  | nil => cases h
  | cons b r =>
    rw [expo_cons] at h
    cases hb : (b == x || b == y)
    · rw [hb] at h
      cases h
    · rw [hb] at h
      exact expTxt_all h
theorem D_not_S {b : UInt8} (h : isD b = true) : isS b = false := by
  have := u8_all (p := fun b => !(isD b) || !(isS b)) (by decide +kernel) b
  simpa [h] using this
theorem expTxt_D (l : List UInt8) : ((expTxt l).dropWhile isS).all isD = true := by
  unfold expTxt
  cases ht : (l.drop (sgn l)).takeWhile isD with
  | nil => rfl
  | cons d t =>
    have hall : ∀ x, x ∈ d :: t → isD x = true := fun x hx => tw_all isD _ x (by rw [ht]; exact hx)
    have hd : isS d = false := D_not_S (hall d (by simp))
    simp only [List.isEmpty_cons, cond_false]
    have key : ((d :: t).dropWhile isS).all isD = true := by
      rw [List.dropWhile_cons, hd]
      simp only [Bool.false_eq_true, if_false]
      rw [List.all_eq_true]
      exact hall
    cases l with
    | nil => exact key
    | cons b r =>
      cases hb : isS b
      · have : sgn (b :: r) = 0 := by simp [sgn, hb]
        rw [this]
        exact key
      · have : sgn (b :: r) = 1 := by simp [sgn, hb]
        rw [this]
        simp only [List.take_succ_cons, List.take_zero, List.cons_append, List.nil_append]
        rw [List.dropWhile_cons, hb]
        exact key
theorem drop_all {P Q : UInt8 → Bool} : ∀ {l : List UInt8}, l.all P = true → (l.dropWhile Q).all P = true
  | [], h => rfl
  | b :: l, h => by
    rw [List.dropWhile_cons]
    split
    · rw [List.all_cons, Bool.and_eq_true] at h
      exact drop_all h.2
    · exact h
theorem expo_D (x y : UInt8) (l : List UInt8) : (expD (expo x y l)).all isD = true := by
  unfold expD baredL
  refine drop_all ?_
  cases l with
  | nil => rfl
  | cons b r =>
    rw [expo_cons]
    cases (b == x || b == y)
    · rfl
    · exact expTxt_D r

/-! ### small letters -/
def lowOk (b : UInt8) : Bool := isD b || isS b || b == 46
theorem low_id {b : UInt8} (h : lowOk b = true) : Lib.lowerB b = b := by
  have := u8_all (p := fun b => !(lowOk b) || (Lib.lowerB b == b)) (by decide +kernel) b
  rw [h] at this
  simpa using this
theorem low_hex {b : UInt8} (h : hexB b = true) : Lib.lowerB b = lowX b := by
  have := u8_all (p := fun b => !(hexB b) || (Lib.lowerB b == lowX b)) (by decide +kernel) b
  rw [h] at this
  simpa using this
theorem lowX_hex {b : UInt8} (h : hexB b = true) : lowX b ≠ 112 ∧ lowX b ≠ 46 := by
  have := u8_all (p := fun b => !(hexB b) || (lowX b != 112 && lowX b != 46)) (by decide +kernel) b
  rw [h] at this
  simpa using this
theorem lowX_D {b : UInt8} (h : isD b = true) : lowX b = b := by
  have := u8_all (p := fun b => !(isD b) || (lowX b == b)) (by decide +kernel) b
  rw [h] at this
  simpa using this
theorem lowX_48 (b : UInt8) : (lowX b == 48) = (b == 48) := by
  have := u8_all (p := fun b => (lowX b == 48) == (b == 48)) (by decide +kernel) b
  simpa using this
theorem D_hex {b : UInt8} (h : isD b = true) : hexB b = true := by unfold hexB; rw [h]; rfl
theorem low_ids {l : List UInt8} (h : ∀ x, x ∈ l → lowOk x = true) : Lib.toLowerA l = l := by
  unfold Lib.toLowerA
  exact (List.map_congr_left (fun x hx => low_id (h x hx))).trans (List.map_id _)
theorem low_hexs {l : List UInt8} (h : ∀ x, x ∈ l → hexB x = true) : Lib.toLowerA l = l.map lowX := by
  unfold Lib.toLowerA
  exact List.map_congr_left (fun x hx => low_hex (h x hx))
theorem low_app (l m : List UInt8) : Lib.toLowerA (l ++ m) = Lib.toLowerA l ++ Lib.toLowerA m := by simp [Lib.toLowerA]
theorem bared_low : ∀ (l : List UInt8), baredL (l.map lowX) = bareL l
  | [] => rfl
  | b :: l => by
    unfold bareL baredL
    rw [List.map_cons, List.dropWhile_cons, List.dropWhile_cons, lowX_48]
    cases b == 48
    · rfl
    · exact bared_low l
theorem bared_digits {l : List UInt8} (h : ∀ x, x ∈ l → isD x = true) : baredL l = bareL l := by
  rw [← bared_low]
  congr 1
  exact ((List.map_congr_left (fun x hx => lowX_D (h x hx))).trans (List.map_id _)).symm
theorem lowOk_D {b : UInt8} (h : isD b = true) : lowOk b = true := by unfold lowOk; rw [h]; rfl
theorem lowOk_E {b : UInt8} (h : isS b = true ∨ isD b = true) : lowOk b = true := by
  unfold lowOk
  rcases h with h | h <;> simp [h]

/-! ### cuts -/
theorem cutB_hit {m t : List UInt8} {c : UInt8} (h : ∀ x, x ∈ m → x ≠ c) : cutB (m ++ c :: t) c = (m, t, true) := by
  have h1 : (m ++ c :: t).takeWhile (· != c) = m ∧ (m ++ c :: t).dropWhile (· != c) = c :: t := by
    induction m with
    | nil => simp
    | cons b m ih =>
      have hb : (b != c) = true := by simpa using h b (by simp)
      obtain ⟨q1, q2⟩ := ih (fun x hx => h x (by simp [hx]))
      simp [List.takeWhile_cons, List.dropWhile_cons, hb, q1, q2]
  unfold cutB
  rw [h1.1, h1.2]
  simp
theorem cutB_miss {m : List UInt8} {c : UInt8} (h : ∀ x, x ∈ m → x ≠ c) : cutB m c = (m, [], false) := by
  have hc : m.contains c = false := by
    rw [List.contains_eq_mem]
    exact decide_eq_false fun hm => h c hm rfl
  obtain ⟨q1, q2⟩ := no_tw hc
  simp only [cutB, q1, q2, hc, List.tail_nil]
theorem D_ne {b c : UInt8} (h : isD b = true) (hc : isD c = false) : b ≠ c := by
  rintro rfl
  rw [h] at hc
  cases hc

/-- The numeral of a mantissa and an exponent. -/
def decNm (neg : Bool) (l : List UInt8) : Nm := ⟨1, neg, bareL ((parts isD l).1 ++ (parts isD l).2.2.1), heldI (expV (expo 101 69 (parts isD l).2.2.2) - ((parts isD l).2.2.1.length : Int)), []⟩
def hexNm (neg : Bool) (l : List UInt8) : Nm := ⟨2, neg, bareL ((parts hexB (l.drop 2)).1 ++ (parts hexB (l.drop 2)).2.2.1), heldI (expV (expo 112 80 (parts hexB (l.drop 2)).2.2.2) - 4 * ((parts hexB (l.drop 2)).2.2.1.length : Int)), []⟩
def ratNm (neg : Bool) (l : List UInt8) : Nm := ⟨3, neg, bareL (l.takeWhile isD), 0, bareL ((l.dropWhile isD).tail.takeWhile isD)⟩
theorem take_len {A q l : List UInt8} {n : Nat} (h : l = A ++ q) (hn : A.length = n) : l.take n = A := by
  rw [h]
  exact List.take_left' hn
theorem eTxt_low (x y : UInt8) (hx : Lib.lowerB x = x) (hy : Lib.lowerB y = x) (l : List UInt8) : Lib.toLowerA (eTxt x y l) = cond (expo x y l).isEmpty [] (x :: expo x y l) := by
  cases l with
  | nil => rfl
  | cons b r =>
    unfold eTxt
    dsimp only
    cases he : (expo x y (b :: r)).isEmpty
    · simp only [cond_false]
      have hl := low_ids (l := expo x y (b :: r)) fun c hc => lowOk_E (expo_all hc)
      have hb : b = x ∨ b = y := by
        rw [expo_cons] at he
        cases hb : (b == x || b == y)
        · rw [hb] at he
          cases he
        · simpa using hb
      show Lib.lowerB b :: Lib.toLowerA (expo x y (b :: r)) = _
      rw [hl]
      rcases hb with rfl | rfl
      · rw [hx]
      · rw [hy]
    · rfl
theorem cut_e {m E : List UInt8} {c : UInt8} (h : ∀ x, x ∈ m → x ≠ c) : (cutB (m ++ cond E.isEmpty [] (c :: E)) c).1 = m ∧ (cutB (m ++ cond E.isEmpty [] (c :: E)) c).2.1 = E := by
  cases E with
  | nil =>
    simp only [List.isEmpty_nil, cond_true, List.append_nil]
    rw [cutB_miss h]
    exact ⟨rfl, rfl⟩
  | cons e E =>
    simp only [List.isEmpty_cons, cond_false]
    rw [cutB_hit h]
    exact ⟨rfl, rfl⟩
theorem cut_dot {h t : List UInt8} {d : Bool} (hh : ∀ x, x ∈ h → x ≠ 46) (hd : d = false → t = []) : (cutB (h ++ cond d (46 :: t) []) 46).1 = h ∧ (cutB (h ++ cond d (46 :: t) []) 46).2.1 = t := by
  cases d with
  | false =>
    simp only [cond_false, List.append_nil]
    rw [cutB_miss hh, hd rfl]
    exact ⟨rfl, rfl⟩
  | true =>
    simp only [cond_true]
    rw [cutB_hit hh]
    exact ⟨rfl, rfl⟩
theorem dec_txt {l : List UInt8} (h0 : decLen l ≠ 0) : l.take (decLen l) = (parts isD l).1 ++ dotP (parts isD l) ++ eTxt 101 69 (parts isD l).2.2.2 := by
  obtain ⟨q, hq⟩ := eTxt_pre 101 69 (parts isD l).2.2.2
  refine take_len (q := q) ?_ ?_
  · rw [List.append_assoc _ _ q, ← hq]
    exact parts_eq isD l
  · rw [List.length_append, dotP_len, eTxt_len]
    unfold decLen at h0 ⊢
    cases hc : (pLen (parts isD l) == 0)
    · rfl
    · rw [hc] at h0
      exact absurd rfl h0
theorem mant_dec {l : List UInt8} (h0 : decLen l ≠ 0) : (mantE (l.take (decLen l)) 1).1 = (parts isD l).1 ++ dotP (parts isD l) ∧ (mantE (l.take (decLen l)) 1).2.1 = expo 101 69 (parts isD l).2.2.2 := by
  rw [dec_txt h0]
  obtain ⟨a1, a2, a3⟩ := parts_all isD l
  have hm : ∀ x, x ∈ (parts isD l).1 ++ dotP (parts isD l) → lowOk x = true ∧ x ≠ 101 := by
    intro x hx
    unfold dotP at hx
    rw [List.mem_append] at hx
    rcases hx with hx | hx
    · exact ⟨lowOk_D (a1 x hx), D_ne (a1 x hx) (by decide)⟩
    · cases hd : (parts isD l).2.1
      · rw [hd] at hx
        cases hx
      · rw [hd, cond_true, List.mem_cons] at hx
        rcases hx with rfl | hx
        · exact ⟨rfl, by decide⟩
        · exact ⟨lowOk_D (a2 x hx), D_ne (a2 x hx) (by decide)⟩
  have d2 : decide ((1 : Int) = 2) = false := rfl
  unfold mantE
  rw [d2, cond_false, low_app, low_ids (fun x hx => (hm x hx).1), eTxt_low 101 69 (by decide) (by decide)]
  exact cut_e (E := expo 101 69 (parts isD l).2.2.2) (fun x hx => (hm x hx).2)
theorem says_dec (neg : Bool) {l : List UInt8} (h0 : decLen l ≠ 0) : saysR (l.take (decLen l)) neg 1 = decNm neg l := by
  obtain ⟨a1, a2, a3⟩ := parts_all isD l
  have d3 : decide ((1 : Int) = 3) = false := rfl
  have d2 : decide ((1 : Int) = 2) = false := rfl
  unfold saysR
  rw [d3, cond_false]
  obtain ⟨e1, e2⟩ := mant_dec h0
  dsimp only
  rw [e1, e2]
  obtain ⟨f1, f2⟩ := cut_dot (h := (parts isD l).1) (d := (parts isD l).2.1) (fun x hx => D_ne (a1 x hx) (by decide)) a3
  unfold dotP
  rw [f1, f2]
  have hb := bared_digits (l := (parts isD l).1 ++ (parts isD l).2.2.1) (fun x hx => by
    rw [List.mem_append] at hx
    rcases hx with hx | hx
    · exact a1 x hx
    · exact a2 x hx)
  rw [hb]
  unfold decNm
  simp
theorem hexLen_two {l : List UInt8} (h0 : hexLen l ≠ 0) : ∃ x r, l = 48 :: x :: r ∧ (x = 120 ∨ x = 88) ∧ hexLen l = hexLen0 r := by
  match l, h0 with
  | z :: x :: r, h0 =>
    unfold hexLen at h0 ⊢
    dsimp only at h0 ⊢
    cases hc : (z == 48 && (x == 120 || x == 88))
    · rw [hc] at h0
      exact absurd rfl h0
    · simp only [Bool.and_eq_true, Bool.or_eq_true, beq_iff_eq] at hc
      exact ⟨x, r, by rw [hc.1], hc.2, by rw [cond_true]⟩
  | [], h0 => exact absurd rfl h0
  | [_], h0 => exact absurd rfl h0
theorem hex_txt {r : List UInt8} (h0 : hexLen0 r ≠ 0) : r.take (hexLen0 r - 2) = (parts hexB r).1 ++ dotP (parts hexB r) ++ eTxt 112 80 (parts hexB r).2.2.2 ∧ 2 ≤ hexLen0 r ∧ expo 112 80 (parts hexB r).2.2.2 ≠ [] := by
  have hl : hexLen0 r = 2 + pLen (parts hexB r) + eLen 112 80 (parts hexB r).2.2.2 ∧ eLen 112 80 (parts hexB r).2.2.2 ≠ 0 := by
    unfold hexLen0 at h0 ⊢
    cases hc : (pLen (parts hexB r) == 0)
    · cases he : (eLen 112 80 (parts hexB r).2.2.2 == 0)
      · exact ⟨rfl, ne_b0 he⟩
      · rw [hc, he] at h0
        exact absurd rfl h0
    · rw [hc] at h0
      exact absurd rfl h0
  obtain ⟨q, hq⟩ := eTxt_pre 112 80 (parts hexB r).2.2.2
  refine ⟨take_len (q := q) ?_ ?_, by omega, fun e => hl.2 (by unfold eLen; rw [e]; rfl)⟩
  · rw [List.append_assoc _ _ q, ← hq]
    exact parts_eq hexB r
  · rw [List.length_append, dotP_len, eTxt_len, hl.1]
    omega
theorem mant_hex {l : List UInt8} (h0 : hexLen l ≠ 0) : (mantE (l.take (hexLen l)) 2).1 = (parts hexB (l.drop 2)).1.map lowX ++ cond (parts hexB (l.drop 2)).2.1 (46 :: (parts hexB (l.drop 2)).2.2.1.map lowX) [] ∧ (mantE (l.take (hexLen l)) 2).2.1 = expo 112 80 (parts hexB (l.drop 2)).2.2.2 := by
  obtain ⟨X, r, rfl, hX, hl⟩ := hexLen_two h0
  rw [hl] at h0 ⊢
  obtain ⟨ht, h2, _⟩ := hex_txt h0
  obtain ⟨n, hn⟩ : ∃ n, hexLen0 r = n + 2 := ⟨hexLen0 r - 2, by omega⟩
  rw [hn] at ht ⊢
  rw [show n + 2 - 2 = n from rfl] at ht
  rw [List.take_succ_cons, List.take_succ_cons, ht]
  have er : (48 :: X :: r).drop 2 = r := rfl
  rw [er]
  obtain ⟨a1, a2, a3⟩ := parts_all hexB r
  have d2 : decide ((2 : Int) = 2) = true := rfl
  unfold mantE
  rw [d2, cond_true]
  have e0 : (Lib.toLowerA (48 :: X :: ((parts hexB r).1 ++ dotP (parts hexB r) ++ eTxt 112 80 (parts hexB r).2.2.2))).drop 2 = Lib.toLowerA ((parts hexB r).1 ++ dotP (parts hexB r) ++ eTxt 112 80 (parts hexB r).2.2.2) := rfl
  have hdot : Lib.toLowerA (dotP (parts hexB r)) = cond (parts hexB r).2.1 (46 :: (parts hexB r).2.2.1.map lowX) [] := by
    unfold dotP
    cases (parts hexB r).2.1
    · rfl
    · show Lib.lowerB 46 :: Lib.toLowerA _ = _
      rw [low_hexs a2]
      rfl
  rw [e0, low_app, low_app, low_hexs a1, hdot, eTxt_low 112 80 (by decide) (by decide)]
  refine cut_e (E := expo 112 80 (parts hexB r).2.2.2) ?_
  intro x hx
  rw [List.mem_append] at hx
  rcases hx with hx | hx
  · obtain ⟨y, hy, rfl⟩ := List.mem_map.1 hx
    exact (lowX_hex (a1 y hy)).1
  · cases hd : (parts hexB r).2.1
    · rw [hd] at hx
      cases hx
    · rw [hd, cond_true, List.mem_cons] at hx
      rcases hx with rfl | hx
      · decide
      · obtain ⟨y, hy, rfl⟩ := List.mem_map.1 hx
        exact (lowX_hex (a2 y hy)).1
theorem says_hex (neg : Bool) {l : List UInt8} (h0 : hexLen l ≠ 0) : saysR (l.take (hexLen l)) neg 2 = hexNm neg l := by
  obtain ⟨a1, a2, a3⟩ := parts_all hexB (l.drop 2)
  have d3 : decide ((2 : Int) = 3) = false := rfl
  have d2 : decide ((2 : Int) = 2) = true := rfl
  unfold saysR
  rw [d3, cond_false]
  obtain ⟨e1, e2⟩ := mant_hex h0
  dsimp only
  rw [e1, e2]
  obtain ⟨f1, f2⟩ := cut_dot (h := (parts hexB (l.drop 2)).1.map lowX) (t := (parts hexB (l.drop 2)).2.2.1.map lowX) (d := (parts hexB (l.drop 2)).2.1) (fun x hx => by
    obtain ⟨y, hy, rfl⟩ := List.mem_map.1 hx
    exact (lowX_hex (a1 y hy)).2) (fun hd => by rw [a3 hd]; rfl)
  rw [f1, f2, ← List.map_append, bared_low, List.length_map]
  rfl
theorem rat_txt {l : List UInt8} (h0 : ratLen l ≠ 0) : ∃ r, l.dropWhile isD = 47 :: r ∧ l.takeWhile isD ≠ [] ∧ r.takeWhile isD ≠ [] ∧ ratLen l = (l.takeWhile isD).length + 1 + (r.takeWhile isD).length ∧ l.take (ratLen l) = l.takeWhile isD ++ 47 :: r.takeWhile isD := by
  have h := List.takeWhile_append_dropWhile (p := isD) (l := l)
  unfold ratLen at h0 ⊢
  cases hr : l.dropWhile isD with
  | nil => rw [hr] at h0; exact absurd rfl h0
  | cons b r =>
    rw [hr] at h0 h
    dsimp only at h0 ⊢
    cases hc : (b == 47 && !((l.takeWhile isD).isEmpty || (r.takeWhile isD).isEmpty))
    · rw [hc] at h0
      exact absurd rfl h0
    · simp only [Bool.and_eq_true, beq_iff_eq, Bool.not_eq_true', Bool.or_eq_false_iff, List.isEmpty_eq_false_iff] at hc
      obtain ⟨rfl, c1, c2⟩ := hc
      refine ⟨r, rfl, c1, c2, rfl, ?_⟩
      rw [cond_true]
      refine take_len (q := r.dropWhile isD) ?_ ?_
      · rw [List.append_assoc, List.cons_append, List.takeWhile_append_dropWhile]
        exact h.symm
      · rw [List.length_append, List.length_cons]
        omega
theorem says_rat (neg : Bool) {l : List UInt8} (h0 : ratLen l ≠ 0) : saysR (l.take (ratLen l)) neg 3 = ratNm neg l := by
  obtain ⟨r, h1, h2, h3, _, h4⟩ := rat_txt h0
  have d3 : decide ((3 : Int) = 3) = true := rfl
  unfold saysR ratNm
  rw [h4, d3, cond_true, h1, List.tail_cons, cutB_hit (fun x hx => D_ne (tw_all isD _ x hx) (by decide))]
  dsimp only
  rw [bared_digits (tw_all isD l), bared_digits (tw_all isD r)]

/-! ### all kinds -/
def numNm (neg : Bool) (l : List UInt8) : Nm := cond ((hexLen l == 0)) (cond ((ratLen l == 0)) (decNm neg l) (ratNm neg l)) (hexNm neg l)
/-- Which kind it is. -/
theorem num_case (l : List UInt8) (h : (numLen l).1 ≠ 0) :
    ((numLen l).1 = 2 ∧ hexLen l ≠ 0 ∧ (numLen l).2 = hexLen l ∧ ∀ neg, numNm neg l = hexNm neg l) ∨
    ((numLen l).1 = 3 ∧ hexLen l = 0 ∧ ratLen l ≠ 0 ∧ (numLen l).2 = ratLen l ∧ ∀ neg, numNm neg l = ratNm neg l) ∨
    ((numLen l).1 = 1 ∧ hexLen l = 0 ∧ ratLen l = 0 ∧ decLen l ≠ 0 ∧ (numLen l).2 = decLen l ∧ ∀ neg, numNm neg l = decNm neg l) := by
  unfold numLen numNm at *
  by_cases h1 : hexLen l = 0
  · rw [b0_t h1] at h ⊢
    by_cases h2 : ratLen l = 0
    · rw [b0_t h2] at h ⊢
      by_cases h3 : decLen l = 0
      · rw [b0_t h3] at h
        exact absurd rfl h
      · rw [b0_f h3]
        exact .inr (.inr ⟨rfl, h1, h2, h3, rfl, fun _ => rfl⟩)
    · rw [b0_f h2]
      exact .inr (.inl ⟨rfl, h1, h2, rfl, fun _ => rfl⟩)
  · rw [b0_f h1]
    exact .inl ⟨rfl, h1, rfl, fun _ => rfl⟩
theorem says_num (neg : Bool) {l : List UInt8} (h : (numLen l).1 ≠ 0) : saysR (l.take (numLen l).2) neg (numLen l).1 = numNm neg l := by
  rcases num_case l h with ⟨a, b, c, d⟩ | ⟨a, _, b, c, d⟩ | ⟨a, _, _, b, c, d⟩
  · rw [a, c, d, says_hex neg b]
  · rw [a, c, d, says_rat neg b]
  · rw [a, c, d, says_dec neg b]
theorem D_asc {b : UInt8} (h : isD b = true) : b.toNat < 128 := by
  have := u8_all (p := fun b => !(isD b) || decide (b.toNat < 128)) (by decide +kernel) b
  rw [h] at this
  simpa using this
theorem X_asc {b : UInt8} (h : hexB b = true) : b.toNat < 128 := by
  have := u8_all (p := fun b => !(hexB b) || decide (b.toNat < 128)) (by decide +kernel) b
  rw [h] at this
  simpa using this
theorem S_asc {b : UInt8} (h : isS b = true) : b.toNat < 128 := by
  have := u8_all (p := fun b => !(isS b) || decide (b.toNat < 128)) (by decide +kernel) b
  rw [h] at this
  simpa using this
theorem eTxt_asc {x y : UInt8} (hx : x.toNat < 128) (hy : y.toNat < 128) {l : List UInt8} {c : UInt8} (h : c ∈ eTxt x y l) : c.toNat < 128 := by
  cases l with
  | nil => cases h
  | cons b r =>
    unfold eTxt at h
    dsimp only at h
    cases he : (expo x y (b :: r)).isEmpty
    · rw [he, cond_false, List.mem_cons] at h
      rcases h with rfl | h
      · rw [expo_cons] at he
        cases hb : (c == x || c == y)
        · rw [hb] at he
          cases he
        · rw [Bool.or_eq_true, beq_iff_eq, beq_iff_eq] at hb
          rcases hb with rfl | rfl
          · exact hx
          · exact hy
      · rcases expo_all h with h | h
        · exact S_asc h
        · exact D_asc h
    · rw [he] at h
      cases h
theorem dot_asc {P : UInt8 → Bool} (hP : ∀ b, P b = true → b.toNat < 128) {l : List UInt8} {c : UInt8} (h : c ∈ (parts P l).1 ++ dotP (parts P l)) : c.toNat < 128 := by
  obtain ⟨a1, a2, a3⟩ := parts_all P l
  unfold dotP at h
  rw [List.mem_append] at h
  rcases h with h | h
  · exact hP c (a1 c h)
  · cases hd : (parts P l).2.1
    · rw [hd] at h
      cases h
    · rw [hd, cond_true, List.mem_cons] at h
      rcases h with rfl | h
      · decide
      · exact hP c (a2 c h)
theorem num_ok {l : List UInt8} (h : (numLen l).1 ≠ 0) : (l.take (numLen l).2).length = (numLen l).2 ∧ 0 < (numLen l).2 ∧ (∀ c, c ∈ l.take (numLen l).2 → c.toNat < 128) ∧
    (decide ((numLen l).1 = 3) || ((!(decide ((numLen l).1 = 2)) || decide (2 ≤ (l.take (numLen l).2).length)) && (expD (mantE (l.take (numLen l).2) (numLen l).1).2.1).all isD)) = true := by
  rcases num_case l h with ⟨a, b, c, _⟩ | ⟨a, _, b, c, _⟩ | ⟨a, _, _, b, c, _⟩
  · rw [a, c, (mant_hex b).2, expo_D]
    obtain ⟨X, r, rfl, hX, hl⟩ := hexLen_two b
    rw [hl] at b ⊢
    obtain ⟨ht, h2, _⟩ := hex_txt b
    obtain ⟨n, hn⟩ : ∃ n, hexLen0 r = n + 2 := ⟨hexLen0 r - 2, by omega⟩
    have hlen : (r.take (hexLen0 r - 2)).length = hexLen0 r - 2 := by
      rw [ht, List.length_append, dotP_len, eTxt_len]
      unfold hexLen0 at b ⊢
      cases hc : (pLen (parts hexB r) == 0)
      · cases he : (eLen 112 80 (parts hexB r).2.2.2 == 0)
        · simp only [cond_false]
          omega
        · rw [hc, he] at b
          exact absurd rfl b
      · rw [hc] at b
        exact absurd rfl b
    rw [hn] at ht hlen ⊢
    rw [show n + 2 - 2 = n from rfl] at ht hlen
    rw [List.take_succ_cons, List.take_succ_cons, List.length_cons, List.length_cons, hlen]
    refine ⟨rfl, by omega, ?_, ?_⟩
    · intro c hc
      rw [List.mem_cons, List.mem_cons, ht, List.mem_append] at hc
      rcases hc with rfl | rfl | hc | hc
      · decide
      · rcases hX with rfl | rfl <;> decide
      · exact dot_asc (fun _ => X_asc) hc
      · exact eTxt_asc (by decide) (by decide) hc
    · rw [decide_eq_true (by omega : 2 ≤ n + 1 + 1)]
      rfl
  · obtain ⟨r, h1, h2, h3, h4, h5⟩ := rat_txt b
    rw [a, c, h5]
    refine ⟨by rw [h4, List.length_append, List.length_cons]; omega, by omega, ?_, rfl⟩
    intro c hc
    rw [List.mem_append, List.mem_cons] at hc
    rcases hc with hc | rfl | hc
    · exact D_asc (tw_all _ _ _ hc)
    · decide
    · exact D_asc (tw_all _ _ _ hc)
  · rw [a, c, (mant_dec b).2, expo_D, dec_txt b]
    refine ⟨?_, by omega, ?_, rfl⟩
    · rw [List.length_append, dotP_len, eTxt_len]
      unfold decLen at b ⊢
      cases hc : (pLen (parts isD l) == 0)
      · rfl
      · rw [hc] at b
        exact absurd rfl b
    · intro c hc
      rw [List.mem_append] at hc
      rcases hc with hc | hc
      · exact dot_asc (fun _ => D_asc) hc
      · exact eTxt_asc (by decide) (by decide) hc

/-! ### the reader, by the grammar -/
def gramN (l : List UInt8) (f : Int) : Nm × Int × Option (Int × Int) :=
  cond (decide (0 ≤ f) && decide (f ≤ (l.length : Int)))
    (let m := (l.drop f.toNat).take 65536
     let R := numLen (m.drop (sgn m))
     cond ((R.1 == 0)) (noNm, 0, some (f, 90)) (numNm (negL m) (m.drop (sgn m)), f + (sgn m + R.2 : Nat), none))
    (noNm, 0, some (f, 90))
theorem sgn_le (l : List UInt8) : sgn l ≤ l.length := by
  cases l with
  | nil => exact Nat.le_refl _
  | cons b r =>
    show cond (isS b) 1 0 ≤ r.length + 1
    cases isS b
    · exact Nat.zero_le _
    · exact Nat.le_add_left _ _
/-- The piece that is taken: its sign, and what stands behind it. -/
theorem piece_of {m : List UInt8} {n : Nat} (hn : 0 < n) (hl : n ≤ (m.drop (sgn m)).length) : signless (m.take (sgn m + n)) = (m.drop (sgn m)).take n ∧ negL (m.take (sgn m + n)) = negL m ∧ (m.take (sgn m + n)).isEmpty = false := by
  cases m with
  | nil =>
    simp at hl
    omega
  | cons b r =>
    obtain ⟨k, rfl⟩ : ∃ k, n = k + 1 := ⟨n - 1, by omega⟩
    cases hb : isS b
    · have e : sgn (b :: r) = 0 := by simp [sgn, hb]
      rw [e, Nat.zero_add, List.drop_zero, List.take_succ_cons]
      refine ⟨?_, rfl, rfl⟩
      unfold signless
      dsimp only
      rw [hb]
      rfl
    · have e : sgn (b :: r) = 1 := by simp [sgn, hb]
      rw [e, Nat.add_comm 1, List.take_succ_cons]
      refine ⟨?_, rfl, rfl⟩
      unfold signless
      dsimp only
      rw [hb]
      rfl
theorem scan_gram {l : List UInt8} (f : Int) (hl : l.length ≤ 1000000) : scanOk l f = true ∧ scanN l f = gramN l f := by
  unfold scanOk scanN gramN
  rw [decide_eq_true hl]
  cases hd : (decide (0 ≤ f) && decide (f ≤ (l.length : Int)))
  · exact ⟨rfl, rfl⟩
  · simp only [cond_true, Bool.not_true, Bool.false_or, Bool.true_and]
    generalize hr : l.drop f.toNat = r
    have hrl : r.length ≤ 1000000 := by rw [← hr, List.length_drop]; omega
    obtain ⟨K, E, hR⟩ : ∃ K E, long r = (K, E) := ⟨_, _, rfl⟩
    rw [hR]
    dsimp only
    rw [long_S] at hR
    generalize hm : r.take 65536 = m at hR ⊢
    have hml : m.length ≤ 65536 := by rw [← hm, List.length_take]; omega
    have hmr : m.length ≤ r.length := by rw [← hm, List.length_take]; omega
    unfold longS at hR
    cases hz : ((numLen (m.drop (sgn m))).1 == 0)
    · rw [hz, cond_false] at hR
      cases hR
      have h0 := ne_b0 hz
      rw [decide_eq_false h0, cond_false, cond_false, Bool.false_or]
      obtain ⟨n1, n2, n3, n4⟩ := num_ok h0
      have hle : (numLen (m.drop (sgn m))).2 ≤ (m.drop (sgn m)).length := by
        rw [List.length_take] at n1
        omega
      have hs := sgn_le m
      have htot : sgn m + (numLen (m.drop (sgn m))).2 ≤ m.length := by
        rw [List.length_drop] at hle
        omega
      have ht : r.take (sgn m + (numLen (m.drop (sgn m))).2) = m.take (sgn m + (numLen (m.drop (sgn m))).2) := by
        rw [← hm, List.take_take, Nat.min_eq_left]
        rw [hm]
        omega
      obtain ⟨p1, p2, p3⟩ := piece_of n2 hle
      rw [Int.toNat_natCast, ht]
      refine ⟨?_, ?_⟩
      · unfold saysOk
        rw [p1, p3, n4]
        have ha : asc (m.take (sgn m + (numLen (m.drop (sgn m))).2)) = true := by
          unfold asc
          rw [List.all_eq_true]
          intro c hc
          refine decide_eq_true ?_
          rw [List.take_add, List.mem_append] at hc
          rcases hc with hc | hc
          · exact S_asc (sgn_take hc)
          · exact n3 c hc
        rw [ha, decide_eq_true (by rw [List.length_take]; omega), decide_eq_true (by omega), decide_eq_true (by omega)]
        rfl
      · unfold saysN
        rw [p1, p2, says_num _ h0]
    · rw [hz, cond_true] at hR
      cases hR
      exact ⟨rfl, rfl⟩
theorem scanF_gram {l : List UInt8} (f : Int) (hl : l.length ≤ 1000000) : xScanF (sb l, f) = some ((gramN l f).1.to, (gramN l f).2.1, (gramN l f).2.2) := by
  obtain ⟨h1, h2⟩ := scan_gram f hl
  rw [xScanF_0 h1, h2]
theorem parse_gram {l : List UInt8} (hl : l.length ≤ 1000000) : xParseF (sb l) = some ((parseS l (gramN l 0)).1.to, (parseS l (gramN l 0)).2) := by
  obtain ⟨h1, h2⟩ := scan_gram (l := l) 0 hl
  unfold xParseF parseN
  rw [bs_sb, h1, h2]
  rfl
end Go.RX.S
