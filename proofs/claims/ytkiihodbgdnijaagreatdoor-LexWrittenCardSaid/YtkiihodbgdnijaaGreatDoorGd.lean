/- plumblaw09: what made writes is read as what it says. -/
import Derived.Test.YtkiihodbgdnijaaGreatDoorGc
import Derived.Test.YtkiihodbgdnijaaGreatDoorKf
set_option linter.unusedVariables false
set_option linter.unusedSimpArgs false
namespace Go.RX.S
open Go Go.RX Go.Proofs

/-! ### numbers in digits -/
theorem digs_snoc (l : List UInt8) (b : UInt8) : digs (l ++ [b]) = digs l * 10 + ((b.toNat : Int) - 48) := by
  unfold digs
  rw [List.foldl_append]
  rfl
theorem dec_D : ∀ (n : Nat), (∀ x, x ∈ Lib.decDigits n → isD x = true) ∧ digs (Lib.decDigits n) = n ∧ Lib.decDigits n ≠ [] := by
  intro n
  induction n using Nat.strongRecOn with
  | _ n ih =>
    have hd : ∀ m : Nat, m < 10 → isD (UInt8.ofNat (48 + m)) = true ∧ ((UInt8.ofNat (48 + m)).toNat : Int) - 48 = m := by
      intro m hm
      have : (UInt8.ofNat (48 + m)).toNat = 48 + m := by rw [UInt8.toNat_ofNat']; omega
      refine ⟨?_, by rw [this]; omega⟩
      unfold isD
      rw [this, decide_eq_true (by omega), decide_eq_true (by omega)]
      rfl
    by_cases h : n < 10
    · rw [Lib.decDigits_one h]
      obtain ⟨a, b⟩ := hd n h
      refine ⟨fun x hx => ?_, ?_, by simp⟩
      · rw [List.mem_singleton] at hx
        rw [hx]
        exact a
      · have := digs_snoc [] (UInt8.ofNat (48 + n))
        rw [List.nil_append] at this
        rw [this, b]
        simp [digs]
    · have e : Lib.decDigits n = Lib.decDigits (n / 10) ++ [UInt8.ofNat (48 + n % 10)] := by rw [Lib.decDigits, dif_neg h]
      obtain ⟨a1, a2, a3⟩ := ih (n / 10) (by omega)
      obtain ⟨b1, b2⟩ := hd (n % 10) (by omega)
      rw [e]
      refine ⟨fun x hx => ?_, ?_, by simp⟩
      · rw [List.mem_append, List.mem_singleton] at hx
        rcases hx with hx | rfl
        · exact a1 x hx
        · exact b1
      · rw [digs_snoc, a2, b2]
        omega
theorem foldl_zero : ∀ (l : List UInt8), (baredL l).foldl (fun n b => n * 10 + ((b.toNat : Int) - 48)) 0 = l.foldl (fun n b => n * 10 + ((b.toNat : Int) - 48)) 0
  | [] => rfl
  | b :: l => by
    unfold baredL
    rw [List.dropWhile_cons]
    cases h : b == 48
    · rfl
    · rw [beq_iff_eq] at h
      subst h
      exact foldl_zero l
theorem digs_bared (l : List UInt8) : digs (baredL l) = digs l := foldl_zero l
theorem nDigits_le : ∀ (k n : Nat), n < 10 ^ (k + 1) → Lib.nDigits n ≤ k + 1
  | 0, n, h => by rw [Lib.nDigits_small (by omega)]; omega
  | k + 1, n, h => by
    by_cases c : n < 10
    · rw [Lib.nDigits_small c]
      omega
    · rw [Lib.nDigits_big c]
      have := nDigits_le k (n / 10) (by rw [Nat.pow_succ] at h; omega)
      omega
theorem bared_len (l : List UInt8) : (baredL l).length ≤ l.length := (List.dropWhile_sublist _).length_le
theorem drop_S {s ds : List UInt8} (hs : s = [] ∨ ∃ b, s = [b] ∧ isS b = true) (h0 : ds ≠ []) (hd : ∀ x, x ∈ ds → isD x = true) : (s ++ ds).dropWhile isS = ds := by
  cases ds with
  | nil => exact absurd rfl h0
  | cons d ds =>
    have hD := D_not_S (hd d (by simp))
    rcases hs with rfl | ⟨b, rfl, hb⟩
    · rw [List.nil_append, List.dropWhile_cons, hD]
      rfl
    · show (b :: d :: ds).dropWhile isS = _
      rw [List.dropWhile_cons, hb, List.dropWhile_cons, hD]
      rfl
/-- What an exponent's text is worth: of few digits. -/
theorem expV_mk {s ds : List UInt8} (hs : s = [] ∨ ∃ b, s = [b] ∧ isS b = true) (h0 : ds ≠ []) (hd : ∀ x, x ∈ ds → isD x = true) (hl : ds.length < 13) : expV (s ++ ds) = cond (s == [45]) (-(digs ds)) (digs ds) := by
  have hD : expD (s ++ ds) = baredL ds := by unfold expD; rw [drop_S hs h0 hd]
  have hN : expN (s ++ ds) = digs ds := by
    unfold expN
    have := bared_len ds
    rw [hD, decide_eq_true (by omega), cond_true, digs_bared]
  have key : ∀ b r, s ++ ds = b :: r → expV (s ++ ds) = cond (b == 45) (-(digs ds)) (digs ds) := fun b r e => by
    rw [← hN]
    rw [e]
    rfl
  cases ds with
  | nil => exact absurd rfl h0
  | cons d ds =>
    rcases hs with rfl | ⟨b, rfl, hb⟩
    · rw [key d ds rfl]
      have : (d == 45) = false := beq_eq_false_iff_ne.2 (D_ne (hd d (by simp)) (by decide))
      rw [this]
      rfl
    · rw [key b (d :: ds) rfl]
      cases hb45 : b == 45
      · have : ([b] == ([45] : List UInt8)) = false := by
          rw [beq_eq_false_iff_ne] at hb45 ⊢
          intro e
          cases e
          exact hb45 rfl
        rw [this]
      · rw [beq_iff_eq] at hb45
        rw [hb45]
        rfl
theorem signL_s (e : Int) (b : Bool) : signL e b = [] ∨ ∃ c, signL e b = [c] ∧ isS c = true := by
  unfold signL
  cases decide (e < 0)
  · cases b
    · exact .inl rfl
    · exact .inr ⟨43, rfl, rfl⟩
  · exact .inr ⟨45, rfl, rfl⟩
theorem signL_neg (e : Int) (b : Bool) : (signL e b == [45]) = decide (e < 0) := by
  unfold signL
  cases decide (e < 0) <;> cases b <;> rfl
theorem expV_dec {e : Int} (b : Bool) (h : e.natAbs < 1000000000000) : expV (signL e b ++ Lib.decDigits e.natAbs) = e := by
  obtain ⟨a1, a2, a3⟩ := dec_D e.natAbs
  rw [expV_mk (signL_s e b) a3 a1 (by rw [Lib.decDigits_length]; have := nDigits_le 11 e.natAbs (by simpa using h); omega), signL_neg, a2]
  by_cases c : e < 0
  · rw [decide_eq_true c, cond_true]
    omega
  · rw [decide_eq_false c, cond_false]
    omega

/-! ### the digits of a piece -/
theorem dig_fin : ∀ (n : Fin 16) (b : Bool), hexB (digB b (n.val : Int)) = true ∧ (n.val < 10 → isD (digB b (n.val : Int)) = true) := by decide +kernel
theorem digsL_ok {l : List Int} {base : Int} {b : Bool} (hb : base = 10 ∨ base = 16) : ∀ x, x ∈ digsL l base b → hexB x = true ∧ (base = 10 → isD x = true) := by
  intro x hx
  unfold digsL at hx
  obtain ⟨n, _, rfl⟩ := List.mem_map.1 hx
  have h0 : 0 ≤ n % base := Int.emod_nonneg _ (by rcases hb with rfl | rfl <;> decide)
  have h1 : n % base < base := Int.emod_lt_of_pos _ (by rcases hb with rfl | rfl <;> decide)
  have := dig_fin ⟨(n % base).toNat, by rcases hb with rfl | rfl <;> omega⟩ b
  have e : (((n % base).toNat : Nat) : Int) = n % base := by omega
  rw [e] at this
  exact ⟨this.1, fun h => this.2 (by show (n % base).toNat < 10; omega)⟩
theorem off_take {P : UInt8 → Bool} {l : List UInt8} (h : off P l) (n : Nat) : off P (l.take n) := by
  cases l with
  | nil => rw [List.take_nil]; exact off_nil P
  | cons b l =>
    cases n with
    | zero => exact off_nil P
    | succ n => exact off_cons (h b l rfl)
/-- What may stand behind a piece. -/
structure Ends (p : Pc) (rest : List UInt8) : Prop where
  d : off isD rest
  e : off (fun b => b == 101 || b == 69) rest
  o : p.point = true ∨ (off (· == 46) rest ∧ off (· == 47) rest ∧ off (fun b => b == 120 || b == 88) rest)
theorem Ends.take {p : Pc} {rest : List UInt8} (h : Ends p rest) (n : Nat) : Ends p (rest.take n) := ⟨off_take h.d n, off_take h.e n, h.o.imp id fun h => ⟨off_take h.1 n, off_take h.2.1 n, off_take h.2.2 n⟩⟩
theorem held_id {n : Int} (h1 : -1073741824 ≤ n) (h2 : n ≤ 1073741824) : heldI n = n := by unfold heldI; omega
theorem neg_s {s b : List UInt8} (hs : s = [] ∨ ∃ c, s = [c] ∧ isS c = true) (hb : off isS b) : negL (s ++ b) = (s == [45]) := by
  rcases hs with rfl | ⟨c, rfl, hc⟩
  · rw [(sgn_mk (.inl rfl) hb).2.2 rfl]
    rfl
  · show (c == 45) = _
    cases h : c == 45
    · symm
      rw [beq_eq_false_iff_ne] at h ⊢
      intro e
      cases e
      exact h rfl
    · rw [beq_iff_eq] at h
      rw [h]
      rfl
theorem hex_S {b : UInt8} (h : hexB b = true) : isS b = false := by
  have := u8_all (p := fun b => !(hexB b) || !(isS b)) (by decide +kernel) b
  rw [h] at this
  simpa using this
theorem off_S {P : UInt8 → Bool} (hP : ∀ b, P b = true → isS b = false) {h r : List UInt8} (hh : ∀ x, x ∈ h → P x = true) (hr : h = [] → off isS r) : off isS (h ++ r) := off_app (fun b q e => hP b (hh b (by rw [e]; simp))) hr
/-- A piece's body: what is read of it. -/
theorem body_rat {h t rest : List UInt8} (h0 : h ≠ []) (hh : ∀ x, x ∈ h → isD x = true) (t0 : t ≠ []) (ht : ∀ x, x ∈ t → isD x = true) (hq : off isD rest) (neg : Bool) :
    off isS (h ++ 47 :: (t ++ rest)) ∧ numLen (h ++ 47 :: (t ++ rest)) = (3, h.length + 1 + t.length) ∧ numNm neg (h ++ 47 :: (t ++ rest)) = ⟨3, neg, bareL h, 0, bareL t⟩ :=
  ⟨off_S (fun _ => D_not_S) hh (fun e => absurd e h0), num_rat h0 hh t0 ht hq (hex_no2 hh (off_cons (by decide)) (fun e => absurd e h0)) neg⟩
theorem off_dot {P : UInt8 → Bool} {t q : List UInt8} {d : Bool} (h46 : P 46 = false) (hd : d = false → off P q) : off P (cond d (46 :: t) [] ++ q) := by
  cases d with
  | false => exact hd rfl
  | true => exact off_cons h46
theorem dot_app (d : Bool) (t q : List UInt8) : cond d (46 :: t) [] ++ q = cond d (46 :: (t ++ q)) q := by cases d <;> rfl
theorem parts_mk {P : UInt8 → Bool} {h t q : List UInt8} {d : Bool} (hh : ∀ x, x ∈ h → P x = true) (ht : ∀ x, x ∈ t → P x = true) (hd : d = false → t = []) (h46 : P 46 = false) (hn : h ≠ [] ∨ t ≠ []) (hq : off P q) (hq46 : d = false → off (· == 46) q) : parts P (h ++ (cond d (46 :: t) [] ++ q)) = (h, d, t, q) := by
  cases d with
  | true => exact parts_dot hh ht h46 hn hq
  | false =>
    rw [hd rfl]
    exact parts_no hh hq (hq46 rfl)
/-- What stands behind the mantissa: an exponent and then the rest, or the rest. -/
theorem body_dec {h t q : List UInt8} {d : Bool} (hh : ∀ x, x ∈ h → isD x = true) (ht : ∀ x, x ∈ t → isD x = true) (hd : d = false → t = []) (hn : h ≠ [] ∨ t ≠ []) (hq : off isD q) (hq46 : d = false → off (· == 46) q) (hq47 : d = false → off (· == 47) q) (hqx : d = false → off (fun b => b == 120 || b == 88) q) (neg : Bool) :
    off isS (h ++ (cond d (46 :: t) [] ++ q)) ∧ numLen (h ++ (cond d (46 :: t) [] ++ q)) = (1, h.length + cond d (1 + t.length) 0 + eLen 101 69 q) ∧ numNm neg (h ++ (cond d (46 :: t) [] ++ q)) = ⟨1, neg, bareL (h ++ t), heldI (expV (expo 101 69 q) - (t.length : Int)), []⟩ := by
  have hdn : d = false → h ≠ [] := fun e => by
    rcases hn with hn | hn
    · exact hn
    · exact absurd (hd e) hn
  refine ⟨off_S (fun _ => D_not_S) hh (fun e => off_dot (by decide) fun e2 => absurd e (hdn e2)), num_dec (parts_mk hh ht hd (by decide) hn hq hq46) ?_ ?_ ?_ neg⟩
  · rcases hn with hn | hn
    · exact .inl hn
    · cases d with
      | false => exact absurd (hd rfl) hn
      | true => exact .inr ⟨rfl, hn⟩
  · exact hex_no2 hh (off_dot (by decide) hqx) (fun e => off_dot (by decide) fun e2 => absurd e (hdn e2))
  · exact rat_no hh (off_dot (by decide) (fun _ => hq)) (off_dot (by decide) hq47)
theorem body_hex {x : UInt8} {h t q : List UInt8} {d : Bool} (hX : x = 120 ∨ x = 88) (hh : ∀ x, x ∈ h → hexB x = true) (ht : ∀ x, x ∈ t → hexB x = true) (hd : d = false → t = []) (hn : h ≠ [] ∨ t ≠ []) (hq : off hexB q) (hq46 : d = false → off (· == 46) q) (hE : expo 112 80 q ≠ []) (neg : Bool) :
    off isS (48 :: x :: (h ++ (cond d (46 :: t) [] ++ q))) ∧ numLen (48 :: x :: (h ++ (cond d (46 :: t) [] ++ q))) = (2, 2 + (h.length + cond d (1 + t.length) 0) + (1 + (expo 112 80 q).length)) ∧
      numNm neg (48 :: x :: (h ++ (cond d (46 :: t) [] ++ q))) = ⟨2, neg, bareL (h ++ t), heldI (expV (expo 112 80 q) - 4 * (t.length : Int)), []⟩ := by
  refine ⟨off_cons (by decide), num_hex hX (parts_mk hh ht hd hex46 hn hq hq46) ?_ hE neg⟩
  rcases hn with hn | hn
  · exact .inl hn
  · cases d with
    | false => exact absurd (hd rfl) hn
    | true => exact .inr ⟨rfl, hn⟩
end Go.RX.S
