/- The reader, over a row of like characters: for every state that stays. -/
import Derived.Test.YtkiihodbgdnijaaGreatDoorKb
set_option linter.unusedVariables false
set_option linter.unusedSimpArgs false
namespace Go.RX.S
open Go Go.RX Go.Proofs

theorem go_keep {f : Nat} {k : Int} {P : Int → Bool} (hf : ∀ c, P c = true → nx f c = (some f, k)) (hk : k ≠ 0) : ∀ (l rest : List Int) (i : Int) (a : Int × Int), (∀ c, c ∈ l → P c = true) →
    lgo (l ++ rest) f i a = lgo rest f (i + l.length) (cond l.isEmpty a (k, i + l.length))
  | [], rest, i, a, _ => by simp
  | c :: l, rest, i, a, h => by
    rw [List.cons_append, lgo, hf c (h c (by simp))]
    dsimp only
    rw [if_pos hk, go_keep hf hk l rest (i + 1) (k, i + 1) (fun x hx => h x (by simp [hx]))]
    have e : i + 1 + (l.length : Int) = i + ((c :: l).length : Nat) := by simp only [List.length_cons]; omega
    rw [e]
    cases l with
    | nil => simp
    | cons d l => rfl
theorem go_pass {f : Nat} {P : Int → Bool} (hf : ∀ c, P c = true → nx f c = (some f, 0)) : ∀ (l rest : List Int) (i : Int) (a : Int × Int), (∀ c, c ∈ l → P c = true) →
    lgo (l ++ rest) f i a = lgo rest f (i + l.length) a
  | [], rest, i, a, _ => by simp
  | c :: l, rest, i, a, h => by
    rw [List.cons_append, lgo, hf c (h c (by simp))]
    dsimp only
    rw [if_neg (by decide), go_pass hf l rest (i + 1) a (fun x hx => h x (by simp [hx]))]
    have e : i + 1 + (l.length : Int) = i + ((c :: l).length : Nat) := by simp only [List.length_cons]; omega
    rw [e]
theorem st_whole (c : Int) (h : dg c = true) : nx 208 c = (some 208, 1) := by rw [nx_W, nx_whole, if_pos h]
theorem st_fraction (c : Int) (h : dg c = true) : nx 233 c = (some 233, 1) := by
  show nx_fraction c = _
  rw [nx_fraction, if_pos h]
theorem st_exp (c : Int) (h : dg c = true) : nx 261 c = (some 261, 1) := by
  show nx_expSigned c = _
  rw [nx_expSigned, if_pos h]
theorem st_under (c : Int) (h : dg c = true) : nx 235 c = (some 235, 3) := by
  show nx_under c = _
  rw [nx_under, if_pos h]
theorem st_pow (c : Int) (h : dg c = true) : nx 277 c = (some 277, 2) := by
  show nx_powSigned c = _
  rw [nx_powSigned, if_pos h]
theorem st_hexWhole (c : Int) (h : hx c = true) : nx 259 c = (some 259, 0) := by
  show nx_hexWhole c = _
  rw [nx_hexWhole, if_pos h]
theorem st_hexFraction (c : Int) (h : hx c = true) : nx 272 c = (some 272, 0) := by
  show nx_hexFraction c = _
  rw [nx_hexFraction, if_pos h]
/-- What can't go on behind a numeral. -/
def offs (l : List Int) : Bool := match l with
  | [] => true
  | c :: _ => c == 32 || c == 41
theorem offs_dg {c : Int} (h : (c == 32 || c == 41) = true) : c = 32 ∨ c = 41 := by simpa using h
theorem stop_at {f : Nat} (h32 : nx f 32 = (none, 0)) (h41 : nx f 41 = (none, 0)) {l : List Int} (hl : offs l = true) (i : Int) (a : Int × Int) : lgo l f i a = a := by
  cases l with
  | nil => rfl
  | cons c l =>
    rcases offs_dg hl with rfl | rfl
    · rw [lgo, h32]
    · rw [lgo, h41]
theorem stop_whole {l : List Int} (hl : offs l = true) (i : Int) (a : Int × Int) : lgo l 208 i a = a := stop_at rfl rfl hl i a
theorem stop_zero {l : List Int} (hl : offs l = true) (i : Int) (a : Int × Int) : lgo l 207 i a = a := stop_at rfl rfl hl i a
theorem stop_fraction {l : List Int} (hl : offs l = true) (i : Int) (a : Int × Int) : lgo l 233 i a = a := stop_at rfl rfl hl i a
theorem stop_exp {l : List Int} (hl : offs l = true) (i : Int) (a : Int × Int) : lgo l 261 i a = a := stop_at rfl rfl hl i a
theorem stop_under {l : List Int} (hl : offs l = true) (i : Int) (a : Int × Int) : lgo l 235 i a = a := stop_at rfl rfl hl i a
theorem stop_pow {l : List Int} (hl : offs l = true) (i : Int) (a : Int × Int) : lgo l 277 i a = a := stop_at rfl rfl hl i a

def isSg (l : List Int) : Bool := match l with
  | [] => true
  | [c] => c == 43 || c == 45
  | _ => false
theorem dg_sg {c : Int} (h : dg c = true) : ¬ (c = 43 ∨ c = 45) := dg_not h
/-- An exponent: at most one sign, one digit or more. -/
theorem go_expo {sg ds rest : List Int} (hs : isSg sg = true) (h0 : ds ≠ []) (hd : ∀ c, c ∈ ds → dg c = true) (hr : offs rest = true) (i : Int) (a : Int × Int) :
    lgo (sg ++ (ds ++ rest)) 234 i a = (1, i + sg.length + ds.length) := by
  have key : ∀ (j : Int) (b : Int × Int), lgo (ds ++ rest) 261 j b = (1, j + ds.length) := fun j b => by
    rw [go_keep st_exp (by decide) ds rest j b hd, stop_exp hr]
    cases ds with
    | nil => exact absurd rfl h0
    | cons d ds => rfl
  match sg, hs with
  | [], _ =>
    cases ds with
    | nil => exact absurd rfl h0
    | cons d ds =>
      have hd0 := hd d (by simp)
      have := key i a
      rw [List.nil_append]
      have e : nx 234 d = nx 261 d := by
        show nx_expBegin d = nx_expSigned d
        rw [nx_expBegin, if_neg (dg_sg hd0)]
      rw [List.cons_append, lgo] at this ⊢
      rw [e, this]
      simp
  | [c], hc =>
    have hc : c = 43 ∨ c = 45 := by simpa [isSg] using hc
    have e : nx 234 c = (some 261, 0) := by
      show nx_expBegin c = _
      rw [nx_expBegin, if_pos hc]
    rw [List.cons_append, lgo, e]
    dsimp only
    rw [if_neg (by decide), List.nil_append, key]
    simp only [List.length_cons, List.length_nil]
    congr 1
/-- A power of two: at most one sign, one digit or more. -/
theorem go_powr {sg ds rest : List Int} (hs : isSg sg = true) (h0 : ds ≠ []) (hd : ∀ c, c ∈ ds → dg c = true) (hr : offs rest = true) (i : Int) (a : Int × Int) :
    lgo (sg ++ (ds ++ rest)) 273 i a = (2, i + sg.length + ds.length) := by
  have key : ∀ (j : Int) (b : Int × Int), lgo (ds ++ rest) 277 j b = (2, j + ds.length) := fun j b => by
    rw [go_keep st_pow (by decide) ds rest j b hd, stop_pow hr]
    cases ds with
    | nil => exact absurd rfl h0
    | cons d ds => rfl
  match sg, hs with
  | [], _ =>
    cases ds with
    | nil => exact absurd rfl h0
    | cons d ds =>
      have hd0 := hd d (by simp)
      have := key i a
      rw [List.nil_append]
      have e : nx 273 d = nx 277 d := by
        show nx_powBegin d = nx_powSigned d
        rw [nx_powBegin, if_neg (dg_sg hd0)]
      rw [List.cons_append, lgo] at this ⊢
      rw [e, this]
      simp
  | [c], hc =>
    have hc : c = 43 ∨ c = 45 := by simpa [isSg] using hc
    have e : nx 273 c = (some 277, 0) := by
      show nx_powBegin c = _
      rw [nx_powBegin, if_pos hc]
    rw [List.cons_append, lgo, e]
    dsimp only
    rw [if_neg (by decide), List.nil_append, key]
    simp only [List.length_cons, List.length_nil]
    congr 1

def notX (l : List Int) : Bool := match l with
  | [] => true
  | c :: _ => c != 120 && c != 88
theorem zero_whole {l : List Int} (h : notX l = true) (i : Int) (a : Int × Int) : lgo l 207 i a = lgo l 208 i a := by
  cases l with
  | nil => rfl
  | cons c l =>
    have hc : ¬ (c = 120 ∨ c = 88) := by
      simp [notX] at h
      omega
    have e : nx 207 c = nx 208 c := by
      show nx_zero c = nx_whole c
      rw [nx_zero, if_neg hc]
    rw [lgo, lgo, e]
theorem dg_notX {c : Int} (h : dg c = true) (l : List Int) : notX (c :: l) = true := by
  simp only [dg, decide_eq_true_eq] at h
  simp [notX]
  omega
/-- Digits, behind a sign. -/
theorem go_head {h rest : List Int} (h0 : h ≠ []) (hd : ∀ c, c ∈ h → dg c = true) (hr : notX rest = true) (i : Int) (a : Int × Int) :
    lgo (h ++ rest) 175 i a = lgo rest 208 (i + h.length) (1, i + h.length) := by
  cases h with
  | nil => exact absurd rfl h0
  | cons d l =>
    have hd0 := hd d (by simp)
    have hl : ∀ c, c ∈ l → dg c = true := fun x hx => hd x (by simp [hx])
    have hz : notX (l ++ rest) = true := by
      cases l with
      | nil => exact hr
      | cons c l => exact dg_notX (hl c (by simp)) _
    have key : lgo (l ++ rest) 208 (i + 1) (1, i + 1) = lgo rest 208 (i + ((d :: l).length : Nat)) (1, i + ((d :: l).length : Nat)) := by
      rw [go_whole l rest (i + 1) hl]
      have e : i + 1 + (l.length : Int) = i + ((d :: l).length : Nat) := by simp only [List.length_cons]; omega
      rw [e]
    rw [List.cons_append, lgo, nx_S, nx_signed]
    by_cases c48 : d = 48
    · rw [if_pos c48]
      dsimp only
      rw [if_pos (by decide), zero_whole hz, key]
    · rw [if_neg c48, if_pos hd0]
      dsimp only
      rw [if_pos (by decide), key]

/-- A rational, behind its sign. -/
theorem go_ratio {h t rest : List Int} (h0 : h ≠ []) (hd : ∀ c, c ∈ h → dg c = true) (t0 : t ≠ []) (td : ∀ c, c ∈ t → dg c = true) (hr : offs rest = true) (i : Int) (a : Int × Int) :
    lgo (h ++ (47 :: (t ++ rest))) 175 i a = (3, i + h.length + 1 + t.length) := by
  rw [go_head h0 hd (by rfl)]
  have e : nx 208 47 = (some 235, 0) := rfl
  rw [lgo, e]
  dsimp only
  rw [if_neg (by decide), go_keep st_under (by decide) t rest _ _ td, stop_under hr]
  cases t with
  | nil => exact absurd rfl t0
  | cons d t => rfl

/-- A mantissa with a point and digits ahead of it. -/
theorem go_point {h t rest : List Int} (h0 : h ≠ []) (hd : ∀ c, c ∈ h → dg c = true) (td : ∀ c, c ∈ t → dg c = true) (i : Int) (a : Int × Int) :
    lgo (h ++ (46 :: (t ++ rest))) 175 i a = lgo rest 233 (i + h.length + 1 + t.length) (1, i + h.length + 1 + t.length) := by
  rw [go_head h0 hd (by rfl)]
  have e : nx 208 46 = (some 233, 1) := rfl
  rw [lgo, e]
  dsimp only
  rw [if_pos (by decide), go_keep st_fraction (by decide) t rest _ _ td]
  cases t with
  | nil => simp
  | cons d t => rfl
/-- A point, and digits behind it alone. -/
theorem go_bare {t rest : List Int} (t0 : t ≠ []) (td : ∀ c, c ∈ t → dg c = true) (i : Int) (a : Int × Int) :
    lgo (46 :: (t ++ rest)) 175 i a = lgo rest 233 (i + 1 + t.length) (1, i + 1 + t.length) := by
  have e : nx 175 46 = (some 209, 0) := rfl
  rw [lgo, e]
  dsimp only
  rw [if_neg (by decide)]
  cases t with
  | nil => exact absurd rfl t0
  | cons d t =>
    have e2 : nx 209 d = (some 233, 1) := by
      show nx_bare d = _
      rw [nx_bare, if_pos (td d (by simp))]
    rw [List.cons_append, lgo, e2]
    dsimp only
    rw [if_pos (by decide), go_keep st_fraction (by decide) t rest _ _ (fun x hx => td x (by simp [hx]))]
    have e3 : i + 1 + 1 + (t.length : Int) = i + 1 + ((d :: t).length : Nat) := by simp only [List.length_cons]; omega
    rw [e3]
    cases t with
    | nil => simp
    | cons c t => rfl

/-- 0x. -/
theorem go_0x {x : Int} (hx' : x = 120 ∨ x = 88) (rest : List Int) (i : Int) (a : Int × Int) :
    lgo (48 :: x :: rest) 175 i a = lgo rest 232 (i + 1 + 1) (1, i + 1) := by
  have e : nx 175 48 = (some 207, 1) := rfl
  have e2 : nx 207 x = (some 232, 0) := by
    show nx_zero x = _
    rw [nx_zero, if_pos hx']
  rw [lgo, e]
  dsimp only
  rw [if_pos (by decide), lgo, e2]
  dsimp only
  rw [if_neg (by decide)]
/-- Hexadecimal digits, behind 0x. -/
theorem go_hexHead {h rest : List Int} (h0 : h ≠ []) (hd : ∀ c, c ∈ h → hx c = true) (i : Int) (a : Int × Int) :
    lgo (h ++ rest) 232 i a = lgo rest 259 (i + h.length) a := by
  cases h with
  | nil => exact absurd rfl h0
  | cons d l =>
    have e : nx 232 d = (some 259, 0) := by
      show nx_hexBegin d = _
      rw [nx_hexBegin, if_pos (hd d (by simp))]
    rw [List.cons_append, lgo, e]
    dsimp only
    rw [if_neg (by decide), go_pass st_hexWhole l rest _ _ (fun x hx => hd x (by simp [hx]))]
    have e3 : i + 1 + (l.length : Int) = i + ((d :: l).length : Nat) := by simp only [List.length_cons]; omega
    rw [e3]

theorem go_hexPoint {t rest : List Int} (td : ∀ c, c ∈ t → hx c = true) (i : Int) (a : Int × Int) :
    lgo (46 :: (t ++ rest)) 259 i a = lgo rest 272 (i + 1 + t.length) a := by
  have e : nx 259 46 = (some 272, 0) := rfl
  rw [lgo, e]
  dsimp only
  rw [if_neg (by decide), go_pass st_hexFraction t rest _ _ td]
theorem go_hexBare {t rest : List Int} (t0 : t ≠ []) (td : ∀ c, c ∈ t → hx c = true) (i : Int) (a : Int × Int) :
    lgo (46 :: (t ++ rest)) 232 i a = lgo rest 272 (i + 1 + t.length) a := by
  have e : nx 232 46 = (some 260, 0) := rfl
  rw [lgo, e]
  dsimp only
  rw [if_neg (by decide)]
  cases t with
  | nil => exact absurd rfl t0
  | cons d t =>
    have e2 : nx 260 d = (some 272, 0) := by
      show nx_hexBare d = _
      rw [nx_hexBare, if_pos (td d (by simp))]
    rw [List.cons_append, lgo, e2]
    dsimp only
    rw [if_neg (by decide), go_pass st_hexFraction t rest _ _ (fun x hx => td x (by simp [hx]))]
    have e3 : i + 1 + 1 + (t.length : Int) = i + 1 + ((d :: t).length : Nat) := by simp only [List.length_cons]; omega
    rw [e3]
end Go.RX.S
