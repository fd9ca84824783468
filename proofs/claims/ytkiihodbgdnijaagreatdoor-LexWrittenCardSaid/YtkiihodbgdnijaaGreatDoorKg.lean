/- LexWritten. -/
import Derived.Test.YtkiihodbgdnijaaGreatDoorJf
import Derived.Test.YtkiihodbgdnijaaGreatDoorQf
set_option linter.unusedVariables false
set_option linter.unusedSimpArgs false
namespace Go.RX.S
open Go Go.RX Go.Proofs

theorem nm_same (x : List AV) : (bif decide (AV.toInt (aget x 0) = AV.toInt (aget x 0)) then
    bif decide (AV.toBool (aget x 1) = AV.toBool (aget x 1)) then
      bif strEq (AV.toStr (aget x 2)) (AV.toStr (aget x 2)) then
        bif decide (AV.toInt (aget x 3) = AV.toInt (aget x 3)) then bif strEq (AV.toStr (aget x 4)) (AV.toStr (aget x 4)) then true else false else false
      else false
    else false
  else false) = true := by
  rw [decide_eq_true rfl, decide_eq_true rfl, decide_eq_true rfl, strEq_bs, strEq_bs, beq_self_eq_true, beq_self_eq_true]
  rfl
theorem check_len {n : Nm} (h : checkB n = true) : n.num.length ≤ 65536 ∧ n.den.length ≤ 65536 := by
  unfold checkB at h
  rw [Bool.or_eq_true, Bool.and_eq_true, Bool.and_eq_true, Bool.and_eq_true, Bool.and_eq_true, Bool.and_eq_true, Bool.and_eq_true] at h
  have key : ∀ {l : List UInt8} {x : Bool}, plainB l x = true → l.length ≤ 65536 := by
    intro l x h
    unfold plainB at h
    rw [Bool.and_eq_true, Bool.and_eq_true] at h
    exact of_decide_eq_true h.1.1
  rcases h with ⟨_, h1, h2, _⟩ | ⟨_, h1, h2, _⟩
  · rw [List.isEmpty_iff] at h2
    exact ⟨key h1, by rw [h2]; exact Nat.zero_le _⟩
  · exact ⟨key h1, key h2⟩
theorem checkF_ok {n : Nm} (h : checkB n = true) : xCheckF n.to = some 0 := by
  obtain ⟨a, b⟩ := check_len h
  unfold xCheckF
  rw [Nm.of_to, show n.ok = true from by unfold Nm.ok; rw [decide_eq_true (by omega), decide_eq_true (by omega)]; rfl, cond_true, h]
  rfl
theorem made_check (p : Pc) : checkB (madeN p).2 = true := by
  obtain ⟨b, h⟩ := made_read p
  exact h.ck
theorem ends_nil (p : Pc) : Ends p [] := ⟨off_nil _, off_nil _, .inr ⟨off_nil _, off_nil _, off_nil _⟩⟩
theorem ends_cons (p : Pc) {c : UInt8} (r : List UInt8) (h : (isD c || (c == 101 || c == 69) || c == 46 || c == 47 || (c == 120 || c == 88)) = false) : Ends p (c :: r) := by
  simp only [Bool.or_eq_false_iff] at h
  obtain ⟨⟨⟨⟨h1, h2⟩, h3⟩, h4⟩, h5⟩ := h
  exact ⟨off_cons h1, off_cons (by rw [Bool.or_eq_false_iff]; exact h2), .inr ⟨off_cons h3, off_cons h4, off_cons (by rw [Bool.or_eq_false_iff]; exact h5)⟩⟩
/-- made's text, alone. -/
theorem made_parse (p : Pc) : xParseF (sb (madeN p).1) = some ((madeN p).2.to, none) := by
  have hl := made_len p
  have := made_gram (ends_nil p) []
  rw [List.nil_append, List.append_nil] at this
  rw [parse_gram (by omega)]
  have g0 : gramN (madeN p).1 0 = ((madeN p).2, ((madeN p).1.length : Int), none) := by
    have e : (([] : List UInt8).length : Int) = 0 := rfl
    rw [e] at this
    rw [this]
    simp
  rw [g0]
  unfold parseS
  dsimp only
  rw [Int.toNat_natCast, List.drop_length]
/-- And at its place. -/
theorem made_scan {p : Pc} {pre rest : List UInt8} (he : Ends p rest) (hl : (pre ++ ((madeN p).1 ++ rest)).length ≤ 1000000) : xScanF (sb (pre ++ ((madeN p).1 ++ rest)), (pre.length : Int)) = some ((madeN p).2.to, (pre.length : Int) + (madeN p).1.length, none) := by
  rw [scanF_gram _ hl, made_gram he pre]
theorem made_F {a : List AV} (h : (Pc.of a).ok = true) : x9madeF [.int .i64 (AV.toInt (aget a 0)), .int .i64 (AV.toInt (aget a 1)), .ints .i64 (AV.asInts (aget a 2)), .ints .i64 (AV.asInts (aget a 3)), .bool (AV.toBool (aget a 4)), .bool (AV.toBool (aget a 5)), .int .i64 (AV.toInt (aget a 6)), .bool (AV.toBool (aget a 7)), .bool (AV.toBool (aget a 8))] = some (sb (madeN (Pc.of a)).1, (madeN (Pc.of a)).2.to) := by
  unfold x9madeF
  rw [show Pc.of [.int .i64 (AV.toInt (aget a 0)), .int .i64 (AV.toInt (aget a 1)), .ints .i64 (AV.asInts (aget a 2)), .ints .i64 (AV.asInts (aget a 3)), .bool (AV.toBool (aget a 4)), .bool (AV.toBool (aget a 5)), .int .i64 (AV.toInt (aget a 6)), .bool (AV.toBool (aget a 7)), .bool (AV.toBool (aget a 8))] = Pc.of a from rfl, h]
  rfl
def LexWrittenF : List AV × ByteArray × ByteArray → Option Bool := fun (a, b, c) => cond (Pc.of a).ok (some true) none
theorem cut_len (s : ByteArray) : ((bs s).take 300).length ≤ 300 := by rw [List.length_take]; omega
theorem aliveF : x9aliveF PUnit.unit = some true := rfl
theorem LexWritten_law {a : List AV} {b c : ByteArray} {t : Bool} (h : LexWrittenF (a, b, c) = some t) : ∃ k : Nat, LexWritten_b0 a b c = some t := by
  obtain ⟨h1, h2⟩ := Option_cond h
  cases h2
  refine ⟨0, ?_⟩
  have hl := made_len (Pc.of a)
  have hc := made_check (Pc.of a)
  unfold LexWritten_b0
  rw [made_F h1, Option.bind_some, aliveF, Option.bind_some]
  dsimp only
  rw [Nm.eta, checkF_ok hc, made_parse]
  generalize (Pc.of a) = p at hl ⊢
  have cb : cut9F b = some (sb ((bs b).take 300)) := rfl
  have cc : cut9F c = some (sb ((bs c).take 300)) := rfl
  have l1 := cut_len b
  have l2 := cut_len c
  rw [cb, cc]
  generalize (bs b).take 300 = pre at l1 ⊢
  generalize (bs c).take 300 = suf at l2 ⊢
  simp only [Option.bind_some]
  have r32 : strOfI [(32 : Int)] = sb [32] := rfl
  have r41 : strOfI [(41 : Int)] = sb [41] := rfl
  rw [r32, r41]
  have s1 := made_scan (p := p) (pre := pre) (rest := 32 :: suf) (ends_cons p _ rfl) (by simp only [List.length_append, List.length_cons]; omega)
  have s2 := made_scan (p := p) (pre := pre) (rest := 41 :: suf) (ends_cons p _ rfl) (by simp only [List.length_append, List.length_cons]; omega)
  have e1 : strCat (strCat (strCat (sb pre) (sb (madeN p).1)) (sb [32])) (sb suf) = sb (pre ++ ((madeN p).1 ++ 32 :: suf)) := by simp only [sb_cat, List.append_assoc, List.cons_append, List.nil_append]
  have e2 : strCat (strCat (strCat (sb pre) (sb (madeN p).1)) (sb [41])) (sb suf) = sb (pre ++ ((madeN p).1 ++ 41 :: suf)) := by simp only [sb_cat, List.append_assoc, List.cons_append, List.nil_append]
  have hs : ∀ s : ByteArray, strEq s s = true := fun s => by rw [strEq_bs, beq_self_eq_true]
  have ha : addI .i64 (pre.length : Int) ((madeN p).1.length : Int) = (pre.length : Int) + (madeN p).1.length := addI_i64 (by omega)
  rw [e1, e2]
  simp (disch := (try simp only [sb_cat, sb_size, List.length_append, List.length_cons, List.length_nil]; omega)) only [cond_true, big, bigR]
  simp only [sb_size]
  rw [s1, s2]
  simp [errSome, hs, ha]

theorem in64 {n : Int} (h : -9223372036854775808 ≤ n ∧ n ≤ 9223372036854775807) : inI64 n = true := by
  unfold inI64
  rw [decide_eq_true h.1, decide_eq_true h.2]
  rfl
theorem pc_ok {W : World} {z : AV} {v : Value} (a : Arg W (.st [.int .i64, .int .i64, .sl (.int .i64), .sl (.int .i64), .bool, .bool, .int .i64, .bool, .bool]) z v) : (Pc.of z.flds).ok = true := by
  obtain ⟨_, h⟩ := st_in a.wt a.gd
  have h0 := h 0 _ rfl
  have h1 := h 1 _ rfl
  have h2 := h 2 _ rfl
  have h3 := h 3 _ rfl
  have h6 := h 6 _ rfl
  exact band (band (band (band (in64 (i64_in h0.1 h0.2)) (in64 (i64_in h1.1 h1.2))) (in64 (i64_in h6.1 h6.2))) (List.all_eq_true.2 (fun n hn => in64 (i64s_in h2.1 h2.2 n hn)))) (List.all_eq_true.2 (fun n hn => in64 (i64s_in h3.1 h3.2 n hn)))
theorem LexWritten_gu {W : World} {v0 v1 v2 : Value} {z0 z1 z2 : AV} (a0 : Arg W (.st [.int .i64, .int .i64, .sl (.int .i64), .sl (.int .i64), .bool, .bool, .int .i64, .bool, .bool]) z0 v0) (a1 : Arg W .str z1 v1) (a2 : Arg W .str z2 v2) :
    LexWrittenF (unL [.st [.int .i64, .int .i64, .sl (.int .i64), .sl (.int .i64), .bool, .bool, .int .i64, .bool, .bool], .str, .str] [z0, z1, z2]) = some true := by
  show cond (Pc.of z0.flds).ok (some true) none = some true
  rw [pc_ok a0]
  rfl
theorem LexWritten_ok : CtrOk Go.Proofs.Tryz.prog 5 (mkF [.st [.int .i64, .int .i64, .sl (.int .i64), .sl (.int .i64), .bool, .bool, .int .i64, .bool, .bool], .str, .str] [.bool] LexWrittenF) := by
  refine mkF_ok (c := bodyOf Go.Proofs.Tryz.f5) (tab := S.tab) (cts := [(30, mkF [.st [.int .i64, .int .i64, .sl (.int .i64), .sl (.int .i64), .bool, .bool, .int .i64, .bool, .bool]] [.str, .st [.int .i64, .bool, .str, .int .i64, .str]] x9madeF), (31, mkF [] [.bool] x9aliveF), (25, mkF [.st [.int .i64, .bool, .str, .int .i64, .str]] [.int .i64] xCheckF), (32, mkF [.str] [.st [.int .i64, .bool, .str, .int .i64, .str], .err] xParseF), (20, mkF [.str] [.str] cut9F), (29, mkF [.str, .int .i64] [.st [.int .i64, .bool, .str, .int .i64, .str], .int .i64, .err] xScanF)]) (res := [6]) tab_ok hm ⟨x9made_ok, x9alive_ok, xCheck_ok, xParse_ok, cut9_ok, xScan_ok, trivial⟩ Go.Proofs.Tryz.func5 (by kernel_rfl) (by kernel_rfl) (by kernel_rfl) (by kernel_rfl) (by kernel_rfl) ?_
  rintro ⟨a, b, c⟩ t h
  obtain ⟨k, hk⟩ := LexWritten_law h
  exact ⟨LexWritten_h, 3000, k, (LexWritten_ev k a b c).trans hk⟩

end Go.RX.S
