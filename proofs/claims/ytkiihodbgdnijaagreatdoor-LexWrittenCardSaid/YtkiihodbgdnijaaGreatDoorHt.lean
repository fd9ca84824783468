/- Contracts of Go's library and of functions walked by hand. -/
import Derived.Test.YtkiihodbgdnijaaGreatDoorQd
import Derived.Test.YtkiihodbgdnijaaGreatDoorHs
import Derived.Test.YtkiihodbgdnijaaGreatDoorHc
import Derived.Test.YtkiihodbgdnijaaGreatDoorSa
import Derived.Lib.AtoiErrMem
set_option linter.unusedVariables false
set_option linter.unusedSimpArgs false
namespace Go.RX.S
open Go Go.RowKit Go.Proofs

def bs (s : ByteArray) : List UInt8 := s.data.toList
def sb (l : List UInt8) : ByteArray := ⟨l.toArray⟩
def asc (l : List UInt8) : Bool := l.all fun b => decide (b.toNat < 128)
theorem asc_at {l : List UInt8} (h : asc l = true) (j : Nat) (b : UInt8) (hb : l[j]? = some b) : b.toNat < 128 := by
  have := List.all_eq_true.1 h b (List.mem_of_getElem? hb)
  simpa using this
theorem rstr {W : World} {ok : Nat → Prop} {R : Nat → Option Loc} {s : ByteArray} : Rel0 W ok R (.str s) (.string s) := by simp [Rel0, lift, AV.isAgg, X]
theorem rint {W : World} {ok : Nat → Prop} {R : Nat → Option Loc} {k : IntKind} {n : Int} : Rel0 W ok R (.int k n) (.int k n) := by simp [Rel0, lift, AV.isAgg, X]
theorem rbool {W : World} {ok : Nat → Prop} {R : Nat → Option Loc} {n : Bool} : Rel0 W ok R (.bool n) (.bool n) := by simp [Rel0, lift, AV.isAgg, X]
theorem rerr0 {W : World} {ok : Nat → Prop} {R : Nat → Option Loc} : Rel0 W ok R (.err none) .nilIface := by simp [Rel0, lift, AV.isAgg, X]

/-- strings.TrimLeft, of ASCII bytes. -/
def trimLF : ByteArray × ByteArray → Option (ByteArray) := fun (s, c) => cond (asc (bs c) && decide (c.size < 4294967281)) (some (sb ((bs s).dropWhile ((bs c).contains ·)))) none
theorem trimL_ok : CtrOk Tryz.prog 177 (mkF [.str, .str] [.str] trimLF) := by
  refine hand_ok ⟨_, Tryz.func177, by kernel_rfl, by kernel_rfl⟩ rfl ?_
  rintro ⟨s, c⟩ t h W ok hG
  obtain ⟨h1, h2⟩ := Option_cond h
  rw [Bool.and_eq_true, decide_eq_true_eq] at h1
  cases h2
  refine (Tryz.strings_TrimLeft_laid s c W h1.2 (asc_at h1.1)).mono ?_
  rintro e W' ⟨rfl, hb⟩
  exact ⟨[_], rfl, hb, _, _, rfl, rstr, rfl⟩

/-- strings.IndexByte. -/
def idxBF : ByteArray × Int → Option (Int) := fun (s, c) => some (Lib.indexByte (bs s) c.toNat.toUInt8)
theorem idxB_ok : CtrOk Tryz.prog 85 (mkF [.str, .int .u8] [.int .i64] idxBF) := by
  refine hand_ok ⟨_, Tryz.func85, by kernel_rfl, by kernel_rfl⟩ rfl ?_
  rintro ⟨s, c⟩ t h W ok hG
  cases h
  refine (Tryz.strings_IndexByte s c W).mono ?_
  rintro e W' ⟨rfl, rfl⟩
  exact ⟨[_], rfl, Below.refl _ _, _, _, rfl, rint, rfl⟩

/-- strings.ToLower, of ASCII bytes. -/
def lowerF : ByteArray → Option (ByteArray) := fun s => cond (asc (bs s) && decide (s.size ≤ 140737488355328)) (some (sb (Lib.toLowerA (bs s)))) none
theorem lower_ok : CtrOk Tryz.prog 136 (mkF [.str] [.str] lowerF) := by
  refine hand_ok ⟨_, Tryz.func136, by kernel_rfl, by kernel_rfl⟩ rfl ?_
  intro s t h W ok hG
  obtain ⟨h1, h2⟩ := Option_cond h
  rw [Bool.and_eq_true, decide_eq_true_eq] at h1
  cases h2
  refine (Tryz.strings_ToLower_ascii s W h1.2 (asc_at h1.1)).mono ?_
  rintro e W' ⟨rfl, hb⟩
  exact ⟨[_], rfl, hb, _, _, rfl, rstr, rfl⟩

/-- strconv.Atoi, of a short numeral. -/
def atoiF : ByteArray → Option (Int × Option (Int × Int)) := fun s => cond (decide (s.size ≤ 18)) ((Lib.atoi (bs s)).map fun n => (n, none)) none
theorem atoi_ok : CtrOk Tryz.prog 181 (mkF [.str] [.int .i64, .err] atoiF) := by
  refine hand_ok ⟨_, Tryz.func181, by kernel_rfl, by kernel_rfl⟩ rfl ?_
  intro s t h W ok hG
  obtain ⟨h1, h2⟩ := Option_cond h
  rw [decide_eq_true_eq] at h1
  obtain ⟨n, hn, rfl⟩ := Option.map_eq_some_iff.1 h2
  refine (Tryz.strconv_Atoi s n h1 hn W).mono ?_
  rintro e W' ⟨rfl, u, rfl⟩
  refine ⟨[_, _], rfl, ?_, _, _, rfl, rint, _, _, rfl, rerr0, rfl⟩
  exact Lib.bytesWorld_below W 5 u

/-- plumb/lex.longest. -/
def longF : ByteArray → Option (Int × Int) := fun s => cond (decide (s.size ≤ 9223372036854775807)) (some (lgo ((byt s).take 65536) 133 0 (0, 0))) none
theorem long_ok : CtrOk Tryz.prog 80 (mkF [.str] [.int .i64, .int .i64] longF) := by
  refine hand_ok ⟨_, Tryz.func80, by kernel_rfl, by kernel_rfl⟩ rfl ?_
  intro s t h W ok hG
  obtain ⟨h1, h2⟩ := Option_cond h
  rw [decide_eq_true_eq] at h1
  cases h2
  refine (longest_any s W h1).mono ?_
  rintro e W' ⟨rfl, hb⟩
  exact ⟨[_, _], rfl, hb, _, _, rfl, rint, _, _, rfl, rint, rfl⟩

/-- internal/stringslite.Index, of one byte. -/
def idx1F : ByteArray × ByteArray → Option (Int) := fun (s, c) => match bs c with
  | [b] => some (Lib.indexByte (bs s) b)
  | _ => none
theorem idx1_ok : CtrOk Tryz.prog 211 (mkF [.str, .str] [.int .i64] idx1F) := by
  refine hand_ok ⟨_, Tryz.func211, by kernel_rfl, by kernel_rfl⟩ rfl ?_
  rintro ⟨s, c⟩ t h W ok hG
  simp only [idx1F] at h
  split at h
  · rename_i b hb
    cases h
    have hc : c = ⟨#[b]⟩ := by
      obtain ⟨⟨l⟩⟩ := c
      simp only [bs] at hb
      subst hb
      rfl
    subst hc
    refine (Tryz.stringslite_Index_one s b W).mono ?_
    rintro e W' ⟨rfl, rfl⟩
    exact ⟨[_], rfl, Below.refl _ _, _, _, rfl, rint, rfl⟩
  · cases h

/-- plumb/api.Wrap. -/
def wrapF : Int × Int → Option (Option (Int × Int)) := fun (a, c) => some (some (a, c))
theorem wrap_walk (a c : Int) (w : World) : Calls Tryz.prog 79 #[.int .i64 a, .int .i64 c] w fun e w' => e = .returned (.iface 143 (.pointer (some ⟨w.heap.size, 0, none⟩))) ∧ w' = w.alloc (.cells #[.int .i64 a, .iface 25 (.int .i64 c)] 147) := by
  go_enter Tryz.func79, Tryz.ntmps79
  go_wp2
  go_ret
  exact ⟨rfl, rfl⟩
theorem wrap_ok : CtrOk Tryz.prog 79 (mkF [.int .i64, .int .i64] [.err] wrapF) := by
  refine hand_ok ⟨_, Tryz.func79, by kernel_rfl, by kernel_rfl⟩ rfl ?_
  rintro ⟨a, c⟩ t h W ok hG
  cases h
  refine (wrap_walk a c W).mono ?_
  rintro e W' ⟨rfl, rfl⟩
  refine ⟨[_], rfl, (Below.refl _ _).alloc (Nat.le_refl _) _, _, _, rfl, ?_, rfl⟩
  simp only [mkV, Rel0, lift, AV.isAgg, X, Bool.false_eq_true, if_false]
  refine ⟨⟨W.heap.size, 0, none⟩, rfl, ⟨Nat.le_refl _, by simp⟩, ?_⟩
  intro j u hu
  match j, hu with
  | 0, hu => cases hu; simp [Addr.add]
  | 1, hu => cases hu; simp [Addr.add]; rfl
end Go.RX.S
