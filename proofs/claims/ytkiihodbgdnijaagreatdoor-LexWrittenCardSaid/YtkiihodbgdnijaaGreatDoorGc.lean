/- Numerals that are laid together: what the grammar makes of them. -/
import Derived.Test.YtkiihodbgdnijaaGreatDoorGb
set_option linter.unusedVariables false
set_option linter.unusedSimpArgs false
namespace Go.RX.S
open Go Go.RX Go.Proofs

/-- What stands first is none of these. -/
def off (P : UInt8 → Bool) (l : List UInt8) : Prop := ∀ b r, l = b :: r → P b = false
theorem off_nil (P : UInt8 → Bool) : off P [] := fun _ _ h => by cases h
theorem off_cons {P : UInt8 → Bool} {b : UInt8} {r : List UInt8} (h : P b = false) : off P (b :: r) := fun _ _ e => by cases e; exact h
theorem off_dw (P : UInt8 → Bool) (l : List UInt8) : off P (l.dropWhile P) := fun _ _ h => dw_head h
theorem off_app {P : UInt8 → Bool} {l r : List UInt8} (h1 : off P l) (h2 : l = [] → off P r) : off P (l ++ r) := by
  cases l with
  | nil => exact h2 rfl
  | cons b l => exact off_cons (h1 b l rfl)
theorem tw_app {P : UInt8 → Bool} : ∀ {h r : List UInt8}, (∀ x, x ∈ h → P x = true) → off P r → (h ++ r).takeWhile P = h ∧ (h ++ r).dropWhile P = r
  | [], r, _, hr => by
    cases r with
    | nil => exact ⟨rfl, rfl⟩
    | cons b r =>
      have := hr b r rfl
      rw [List.nil_append, List.takeWhile_cons, List.dropWhile_cons, this]
      exact ⟨rfl, rfl⟩
  | b :: h, r, hh, hr => by
    have hb := hh b (by simp)
    obtain ⟨q1, q2⟩ := tw_app (h := h) (fun x hx => hh x (by simp [hx])) hr
    rw [List.cons_append, List.takeWhile_cons, List.dropWhile_cons, hb]
    simp only [if_true]
    rw [q1, q2]
    exact ⟨rfl, rfl⟩
theorem isEmpty_ne {l : List UInt8} (h : l ≠ []) : l.isEmpty = false := by cases l with
  | nil => exact absurd rfl h
  | cons b l => rfl
/-- A mantissa with a point. -/
theorem parts_dot {P : UInt8 → Bool} {h t q : List UInt8} (hh : ∀ x, x ∈ h → P x = true) (ht : ∀ x, x ∈ t → P x = true) (h46 : P 46 = false) (hn : h ≠ [] ∨ t ≠ []) (hq : off P q) : parts P (h ++ 46 :: (t ++ q)) = (h, true, t, q) := by
  obtain ⟨q1, q2⟩ := tw_app (r := 46 :: (t ++ q)) hh (off_cons h46)
  obtain ⟨q3, q4⟩ := tw_app (r := q) ht hq
  unfold parts
  rw [q1, q2]
  dsimp only
  rw [q3, q4]
  have : (h.isEmpty && t.isEmpty) = false := by
    rcases hn with hn | hn
    · rw [isEmpty_ne hn]; rfl
    · rw [isEmpty_ne hn, Bool.and_false]
  rw [this]
  rfl
/-- A mantissa without one. -/
theorem parts_no {P : UInt8 → Bool} {h q : List UInt8} (hh : ∀ x, x ∈ h → P x = true) (hq : off P q) (h46 : off (· == 46) q) : parts P (h ++ q) = (h, false, [], q) := by
  obtain ⟨q1, q2⟩ := tw_app (r := q) hh hq
  unfold parts
  rw [q1, q2]
  cases q with
  | nil => rfl
  | cons b r =>
    have : (b == 46) = false := h46 b r rfl
    dsimp only
    rw [this]
    rfl
theorem expTxt_mk {s ds r : List UInt8} (hs : s = [] ∨ ∃ b, s = [b] ∧ isS b = true) (h0 : ds ≠ []) (hd : ∀ x, x ∈ ds → isD x = true) (hr : off isD r) : expTxt (s ++ (ds ++ r)) = s ++ ds := by
  obtain ⟨q1, q2⟩ := tw_app (r := r) hd hr
  cases ds with
  | nil => exact absurd rfl h0
  | cons d ds =>
    rcases hs with rfl | ⟨b, rfl, hb⟩
    · have e : sgn ((d :: ds) ++ r) = 0 := by
        show cond (isS d) 1 0 = 0
        rw [D_not_S (hd d (by simp))]
        rfl
      unfold expTxt
      rw [List.nil_append, e, List.drop_zero, q1]
      rfl
    · have e : sgn ([b] ++ ((d :: ds) ++ r)) = 1 := by
        show cond (isS b) 1 0 = 1
        rw [hb]
        rfl
      unfold expTxt
      rw [e]
      have e2 : ([b] ++ ((d :: ds) ++ r)).drop 1 = (d :: ds) ++ r := rfl
      have e3 : ([b] ++ ((d :: ds) ++ r)).take 1 = [b] := rfl
      rw [e2, e3, q1]
      rfl
theorem expo_mk {x y c : UInt8} (hc : c = x ∨ c = y) {s ds r : List UInt8} (hs : s = [] ∨ ∃ b, s = [b] ∧ isS b = true) (h0 : ds ≠ []) (hd : ∀ x, x ∈ ds → isD x = true) (hr : off isD r) : expo x y (c :: (s ++ (ds ++ r))) = s ++ ds := by
  have h : (c == x || c == y) = true := by
    rcases hc with rfl | rfl <;> simp
  rw [expo_cons, h, cond_true, expTxt_mk hs h0 hd hr]
theorem expo_off {x y : UInt8} {q : List UInt8} (h : off (fun b => b == x || b == y) q) : expo x y q = [] := by
  cases q with
  | nil => rfl
  | cons b r =>
    have : (b == x || b == y) = false := h b r rfl
    rw [expo_cons, this]
    rfl
theorem eLen_nil {x y : UInt8} {q : List UInt8} (h : expo x y q = []) : eLen x y q = 0 := by unfold eLen; rw [h]; rfl
theorem eLen_ne {x y : UInt8} {q E : List UInt8} (h : expo x y q = E) (h0 : E ≠ []) : eLen x y q = 1 + E.length := by unfold eLen; rw [h, isEmpty_ne h0]; rfl

/-- A decimal. -/
theorem num_dec {l h t q : List UInt8} {d : Bool} (hp : parts isD l = (h, d, t, q)) (hn : h ≠ [] ∨ (d = true ∧ t ≠ [])) (hx : hexLen l = 0) (hr : ratLen l = 0) (neg : Bool) :
    numLen l = (1, h.length + cond d (1 + t.length) 0 + eLen 101 69 q) ∧ numNm neg l = ⟨1, neg, bareL (h ++ t), heldI (expV (expo 101 69 q) - (t.length : Int)), []⟩ := by
  have hl : pLen (parts isD l) ≠ 0 := by
    rw [hp]
    unfold pLen
    rcases hn with hn | ⟨rfl, hn⟩
    · cases h with
      | nil => exact absurd rfl hn
      | cons b h => simp
    · simp
  have hd : decLen l = h.length + cond d (1 + t.length) 0 + eLen 101 69 q := by
    unfold decLen
    rw [b0_f hl, cond_false, hp]
    rfl
  have hd0 : decLen l ≠ 0 := by
    unfold decLen
    rw [b0_f hl, cond_false]
    omega
  unfold numLen numNm
  rw [hx, hr, b0_t rfl, cond_true, cond_true, cond_true, cond_true, b0_f hd0, cond_false, hd]
  refine ⟨rfl, ?_⟩
  unfold decNm
  rw [hp]
/-- A hexadecimal. -/
theorem num_hex {x : UInt8} {r h t q : List UInt8} {d : Bool} (hX : x = 120 ∨ x = 88) (hp : parts hexB r = (h, d, t, q)) (hn : h ≠ [] ∨ (d = true ∧ t ≠ [])) (hE : expo 112 80 q ≠ []) (neg : Bool) :
    numLen (48 :: x :: r) = (2, 2 + (h.length + cond d (1 + t.length) 0) + (1 + (expo 112 80 q).length)) ∧ numNm neg (48 :: x :: r) = ⟨2, neg, bareL (h ++ t), heldI (expV (expo 112 80 q) - 4 * (t.length : Int)), []⟩ := by
  have hl : pLen (parts hexB r) ≠ 0 := by
    rw [hp]
    unfold pLen
    rcases hn with hn | ⟨rfl, hn⟩
    · cases h with
      | nil => exact absurd rfl hn
      | cons b h => simp
    · simp
  have he : eLen 112 80 q = 1 + (expo 112 80 q).length := eLen_ne rfl hE
  have h0 : hexLen (48 :: x :: r) = 2 + (h.length + cond d (1 + t.length) 0) + (1 + (expo 112 80 q).length) := by
    have hc : ((48 : UInt8) == 48 && (x == 120 || x == 88)) = true := by rcases hX with rfl | rfl <;> rfl
    unfold hexLen
    dsimp only
    rw [hc, cond_true]
    unfold hexLen0
    rw [b0_f hl, cond_false]
    rw [hp]
    dsimp only
    rw [he, b0_f (by omega), cond_false]
    rfl
  unfold numLen numNm
  rw [b0_f (by rw [h0]; omega), cond_false, cond_false, h0]
  refine ⟨rfl, ?_⟩
  unfold hexNm
  rw [show (48 :: x :: r).drop 2 = r from rfl, hp]
/-- A rational. -/
theorem num_rat {h t q : List UInt8} (h0 : h ≠ []) (hh : ∀ x, x ∈ h → isD x = true) (t0 : t ≠ []) (ht : ∀ x, x ∈ t → isD x = true) (hq : off isD q) (hx : hexLen (h ++ 47 :: (t ++ q)) = 0) (neg : Bool) :
    numLen (h ++ 47 :: (t ++ q)) = (3, h.length + 1 + t.length) ∧ numNm neg (h ++ 47 :: (t ++ q)) = ⟨3, neg, bareL h, 0, bareL t⟩ := by
  obtain ⟨q1, q2⟩ := tw_app (P := isD) (r := 47 :: (t ++ q)) hh (off_cons (by decide))
  obtain ⟨q3, q4⟩ := tw_app (r := q) ht hq
  have hr : ratLen (h ++ 47 :: (t ++ q)) = h.length + 1 + t.length := by
    unfold ratLen
    rw [q1, q2]
    dsimp only
    rw [q3, isEmpty_ne h0, isEmpty_ne t0]
    rfl
  unfold numLen numNm
  rw [hx, hr, b0_t rfl, cond_true, cond_true, b0_f (by omega), cond_false, cond_false]
  refine ⟨rfl, ?_⟩
  unfold ratNm
  rw [q1, q2, List.tail_cons, q3]
/-- No hexadecimal one stands there. -/
theorem hex_no {l : List UInt8} (h : ∀ x r, l = 48 :: x :: r → x ≠ 120 ∧ x ≠ 88) : hexLen l = 0 := by
  match l, h with
  | [], _ => rfl
  | [_], _ => rfl
  | z :: x :: r, h =>
    unfold hexLen
    dsimp only
    cases hz : z == 48
    · rfl
    · rw [beq_iff_eq] at hz
      obtain ⟨a, b⟩ := h x r (by rw [hz])
      have : (x == 120 || x == 88) = false := by simp [a, b]
      rw [this]
      rfl
theorem rat_no {h r : List UInt8} (hh : ∀ x, x ∈ h → isD x = true) (hr : off isD r) (h47 : off (· == 47) r) : ratLen (h ++ r) = 0 := by
  obtain ⟨q1, q2⟩ := tw_app (r := r) hh hr
  unfold ratLen
  rw [q1, q2]
  cases r with
  | nil => rfl
  | cons b r =>
    have : (b == 47) = false := h47 b r rfl
    dsimp only
    rw [this]
    rfl
/-- Behind at most one digit 0 stands no x. -/
theorem hex_no2 {h r : List UInt8} (hh : ∀ x, x ∈ h → isD x = true) (hr : off (fun b => b == 120 || b == 88) r) (h0 : h = [] → off (· == 48) r) : hexLen (h ++ r) = 0 := by
  refine hex_no fun x q e => ?_
  match h, hh, h0 with
  | [], _, h0 =>
    have := h0 rfl 48 (x :: q) e
    cases this
  | [z], _, _ =>
    cases r with
    | nil => cases e
    | cons b r =>
      cases e
      have := hr x q rfl
      simpa using this
  | z :: y :: h, hh, _ =>
    cases e
    have := hh x (by simp)
    exact ⟨D_ne this (by decide), D_ne this (by decide)⟩

/-! ### the whole, at its place -/
theorem sgn_mk {s b : List UInt8} (hs : s = [] ∨ ∃ c, s = [c] ∧ isS c = true) (hb : off isS b) : sgn (s ++ b) = s.length ∧ (s ++ b).drop s.length = b ∧ (s = [] → negL (s ++ b) = false) := by
  rcases hs with rfl | ⟨c, rfl, hc⟩
  · cases b with
    | nil => exact ⟨rfl, rfl, fun _ => rfl⟩
    | cons x b =>
      have := hb x b rfl
      refine ⟨?_, rfl, fun _ => ?_⟩
      · show cond (isS x) 1 0 = 0
        rw [this]
        rfl
      · show (x == 45) = false
        unfold isS at this
        rw [Bool.or_eq_false_iff] at this
        exact this.2
  · refine ⟨?_, rfl, fun h => by cases h⟩
    show cond (isS c) 1 0 = 1
    rw [hc]
    rfl
/-- What is read at a place, of a text that is cut there. -/
theorem gram_at {pre l : List UInt8} {s b : List UInt8} {k : Int} {n : Nat} {x : Nm} (hl : l = s ++ b) (hlen : l.length ≤ 65536) (hs : s = [] ∨ ∃ c, s = [c] ∧ isS c = true) (hb : off isS b) (hk : k ≠ 0) (hn : numLen b = (k, n)) (hx : numNm (negL l) b = x) :
    gramN (pre ++ l) pre.length = (x, (pre.length : Int) + (s.length + n : Nat), none) := by
  obtain ⟨a1, a2, _⟩ := sgn_mk hs hb
  unfold gramN
  rw [decide_eq_true (by omega : (0 : Int) ≤ (pre.length : Int)), decide_eq_true (by rw [List.length_append]; omega), Bool.and_self, cond_true]
  dsimp only
  rw [Int.toNat_natCast, List.drop_left, List.take_of_length_le hlen]
  rw [hl, a1, a2, hn]
  dsimp only
  rw [b0_f hk, cond_false, ← hl, hx]
/-- The same, whatever stands behind. -/
theorem gram_long {pre l : List UInt8} : gramN (pre ++ l) pre.length = gramN (pre ++ l.take 65536) pre.length := by
  unfold gramN
  rw [decide_eq_true (by omega : (0 : Int) ≤ (pre.length : Int)), decide_eq_true (by rw [List.length_append]; omega), decide_eq_true (by rw [List.length_append]; omega), Bool.and_self, cond_true, cond_true]
  dsimp only
  rw [Int.toNat_natCast, List.drop_left, List.drop_left, List.take_take, Nat.min_self]
end Go.RX.S
