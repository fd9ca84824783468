/- lex.longest, walked by hand: its contract. -/
import Derived.Test.YtkiihodbgdnijaaGreatDoorHb
import Derived.Lib.Hide
import Derived.StillTailTactics
namespace Go.RX.S
open Go Go.RowKit Go.Proofs
def byt (s : ByteArray) : List Int := s.data.toList.map fun b => (b.toNat : Int)
def Ans (B : Nat) (R : Int × Int) (w : World) (e : Ending) (w' : World) : Prop := e = .returned (.tuple #[.int .i64 R.1, .int .i64 R.2]) ∧ Below B w w'
theorem byt_len (s : ByteArray) : (byt s).length = s.size := by unfold byt; rw [List.length_map]; rfl
theorem run_end {s : ByteArray} {i : Nat} (h : ¬ i < s.size ∨ ¬ i < 65536) {f : Nat} {a : Int × Int} : lgo (((byt s).take 65536).drop i) f i a = a := by
  rw [List.drop_of_length_le (by rw [List.length_take, byt_len]; omega)]
  rfl
theorem run_on {s : ByteArray} {i : Nat} (h : i < s.size) (h6 : i < 65536) : ((byt s).take 65536).drop i = (s[i].toNat : Int) :: ((byt s).take 65536).drop (i + 1) := by
  have hl : i < ((byt s).take 65536).length := by rw [List.length_take, byt_len]; omega
  rw [List.drop_eq_getElem_cons hl]
  congr 1
  simp [byt]
  rfl
structure LI (s : ByteArray) (R : Int × Int) (w : World) (g i f : Nat) (k e : Int) (wr : World) : Prop where
  le : i ≤ s.size ∧ i ≤ 65536
  st : isSt f = true
  rd : Rd wr g
  c0 : wr.cell? ⟨g, 0, none⟩ = some (clo g (some f))
  run : lgo (((byt s).take 65536).drop i) f i (k, e) = R
  bel : Below w.heap.size w wr
  hg : g = w.heap.size
structure W3 (w : World) (g : Nat) (v : Value) (k : Int) (w' : World) : Prop where
  c0 : w'.cell? ⟨g, 0, none⟩ = some v
  c1 : w'.cell? ⟨g, 1, none⟩ = some (.int .i64 k)
  f0 : w'.frozen? ⟨g, 0, none⟩ = false
  f1 : w'.frozen? ⟨g, 1, none⟩ = false
  bel : Below g w w'
theorem m_step (f g : Nat) (c : Int) (w : World) (hf : isSt f = true) (h : Rd w g) :
    Calls Tryz.prog f #[.pointer (some ⟨g, 0, none⟩), .int .u8 c] w fun e w' => e = .returned (.tuple #[]) ∧ W3 w g (clo g (nx f c).1) (nx f c).2 w' := by
  refine (m_all f g c w hf h).mono ?_
  rintro e w' ⟨rfl, rfl⟩
  obtain ⟨⟨o0, h0⟩, ⟨o1, h1⟩, f0, f1⟩ := h
  have ne : (⟨g, 0, none⟩ : Addr) ≠ ⟨g, 1, none⟩ := by simp
  have e1 : (w.setCell ⟨g, 0, none⟩ (clo g (nx f c).1)).cell? ⟨g, 1, none⟩ = some o1 := (World.cell?_setCell_other w _ _ _ ne).trans h1
  refine ⟨rfl, ?_, World.cell?_setCell_same _ _ _ e1, by simp [set2, f0], by simp [set2, f1], ?_⟩
  · exact (World.cell?_setCell_other _ _ _ _ ne.symm).trans (World.cell?_setCell_same _ _ _ h0)
  · exact ((Below.refl g w).setCell (p := ⟨g, 0, none⟩) (Nat.le_refl _) _).setCell (p := ⟨g, 1, none⟩) (Nat.le_refl _) _
set_option maxHeartbeats 1000000 in
set_option maxRecDepth 100000 in
theorem longest_any (s : ByteArray) (w : World) (hs : s.size ≤ 9223372036854775807) :
    Calls Tryz.prog 80 #[.string s] w (Ans w.heap.size (lgo ((byt s).take 65536) 133 0 (0, 0)) w) := by
  obtain ⟨R, hR⟩ : ∃ R, lgo ((byt s).take 65536) 133 0 (0, 0) = R := ⟨_, rfl⟩
  rw [hR]
  have HR := Lib.hid hR
  clear hR
  go_enter Tryz.func80, Tryz.ntmps80
  go_wp2
  rw [st1 (g := w.heap.size) (j := 0) (o := .nilFunc) rfl (by simp) (by simp)]
  go_wp2
  have h0 : LI s R w w.heap.size 0 133 0 0 (w.alloc (.cells #[.func (.func 133) #[.pointer (some ⟨w.heap.size, 0, none⟩)] #[], .int .i64 0] 178)) :=
    ⟨⟨Nat.zero_le _, Nat.zero_le _⟩, by decide, ⟨⟨_, by simp; rfl⟩, ⟨_, by simp; rfl⟩, by simp, by simp⟩, by simp [clo], HR, (Below.refl _ _).alloc (Nat.le_refl _) _, rfl⟩
  have H0 := Lib.hid h0
  clear h0
  generalize w.alloc (.cells #[.func (.func 133) #[.pointer (some ⟨w.heap.size, 0, none⟩)] #[], .int .i64 0] 178) = wr0 at H0 ⊢
  generalize w.heap.size = g at H0 ⊢
  go_loopw [4, 5, 7] (fun vk ve vi wr => ∃ (i f : Nat) (k e : Int), vk = .int .i64 k ∧ ve = .int .i64 e ∧ vi = .int .i64 i ∧ LI s R w g i f k e wr) (fun _ _ vi _ => s.size - (intOf vi).toNat)
  case atStart => exact ⟨0, 133, 0, 0, rfl, rfl, rfl, H0⟩
  case round =>
    obtain ⟨i, f, k, e, rfl, rfl, rfl, hL⟩ := hrel
    obtain ⟨⟨hi1, hi2⟩, hst, hrd, hc0, hrun, hbel, hgw⟩ := hL
    have HB := Lib.hid hbel
    have HG := Lib.hid hgw
    have HRn := Lib.hid hrun
    have H2 := Lib.hid hi2
    clear hbel hgw hrun H0 HR hi2
    by_cases hlt : i < s.size
    · by_cases h6 : i < 65536
      · have D6 : decide ((i : Int) < 65536) = true := decide_eq_true (by omega)
        have H6 := Lib.hid h6
        clear h6
        have hc0' : wr.cell? ⟨g, 0, none⟩ = some (.func (.func f) #[.pointer (some ⟨g, 0, none⟩)] #[]) := hc0
        have hE := m_enters f hst
        have hrd2 : Rd wr.drew g := ⟨hrd.c0, hrd.c1, hrd.f0, hrd.f1⟩
        clear hc0 hrd
        go_wp2
        go_still_tail 7, (by kernel_rfl)
        change wpList _ _ _ _ _ wr.drew
        clear D6
        have hm := m_step f g (s[i].toNat : Int) wr.drew hst hrd2
        have hb2 : Below w.heap.size w wr.drew := HB.drew
        have HB2 := Lib.hid hb2
        have HS := Lib.hid hst
        clear hc0' hb2 hrd2 hst HB
        generalize wr.drew = w2 at hm HB2 ⊢
        obtain ⟨o', k', hx⟩ : ∃ o' k', nx f (s[i].toNat : Int) = (o', k') := ⟨_, _, rfl⟩
        rw [hx] at hm
        have HX := Lib.hid hx
        clear hx
        cases o' with
        | none =>
          have hm' : Calls Tryz.prog f #[.pointer (some ⟨g, 0, none⟩), .int .u8 (s[i].toNat : Int)] w2 fun e w' => e = .returned (.tuple #[]) ∧ W3 w2 g .nilFunc k' w' := hm
          clear hm
          go_wp2_with (go_at_fn f; refine hm'.mono ?_; rintro e w3 ⟨rfl, ⟨r0, r1, r2, r3, hb3⟩⟩)
          apply_assumption
          simp only [Act.put]
          go_wp2
          go_ret2
          have e1 := HRn.out
          rw [run_on hlt H6.out, lgo, HX.out] at e1
          rw [← e1]
          exact ⟨rfl, HB2.out.trans (hb3.mono (Nat.le_of_eq HG.out.symm))⟩
        | some f' =>
          have hm' : Calls Tryz.prog f #[.pointer (some ⟨g, 0, none⟩), .int .u8 (s[i].toNat : Int)] w2 fun e w' => e = .returned (.tuple #[]) ∧ W3 w2 g (.func (.func f') #[.pointer (some ⟨g, 0, none⟩)] #[]) k' w' := hm
          clear hm
          by_cases hk : k' = 0
          · subst hk
            go_wp2_with (go_at_fn f; refine hm'.mono ?_; rintro e w3 ⟨rfl, ⟨r0, r1, r2, r3, hb3⟩⟩)
            apply_assumption
            simp only [Act.put]
            go_wp2
            go_roundw
            case rel =>
              have e1 := HRn.out
              rw [run_on hlt H6.out, lgo, HX.out] at e1
              exact ⟨i + 1, f', k, e, rfl, rfl, by go_num, ⟨⟨hlt, H6.out⟩, nx_st HS.out HX.out, ⟨⟨_, r0⟩, ⟨_, r1⟩, r2, r3⟩, r0, by simpa using e1, HB2.out.trans (hb3.mono (Nat.le_of_eq HG.out.symm)), HG.out⟩⟩
            case measure => simp [intOf]; omega
          · go_wp2_with (go_at_fn f; refine hm'.mono ?_; rintro e w3 ⟨rfl, ⟨r0, r1, r2, r3, hb3⟩⟩)
            apply_assumption
            simp only [Act.put]
            go_wp2
            go_roundw
            case rel =>
              have e1 := HRn.out
              rw [run_on hlt H6.out, lgo, HX.out] at e1
              exact ⟨i + 1, f', k', ((i + 1 : Nat) : Int), rfl, by go_num, by go_num, ⟨⟨hlt, H6.out⟩, nx_st HS.out HX.out, ⟨⟨_, r0⟩, ⟨_, r1⟩, r2, r3⟩, r0, by simpa [hk] using e1, HB2.out.trans (hb3.mono (Nat.le_of_eq HG.out.symm)), HG.out⟩⟩
            case measure => simp [intOf]; omega
      · have D6 : decide ((i : Int) < 65536) = false := decide_eq_false (by omega)
        have H6 := Lib.hid h6
        clear h6
        go_wp2
        go_ret2
        have e1 := HRn.out
        rw [run_end (.inr H6.out)] at e1
        rw [← e1]
        exact ⟨rfl, HB.out⟩
    · go_wp2
      go_ret2
      have e1 := HRn.out
      rw [run_end (.inl hlt)] at e1
      rw [← e1]
      exact ⟨rfl, HB.out⟩
end Go.RX.S
