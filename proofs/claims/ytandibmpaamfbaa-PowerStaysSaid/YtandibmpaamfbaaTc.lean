/- What functions compute, printed. -/
import Derived.Test.YtandibmpaamfbaaSe
import Derived.Test.YtandibmpaamfbaaTb
set_option linter.unusedVariables false
set_option linter.unusedSimpArgs false
namespace Go.RX.S
open Go Go.RX
noncomputable section
/-! ### plumb/plumblaw02.NatHuge -/
def NatHuge_h : Nat → Option Head := hintOf [(12, ⟨[(0, .same), (1, .same), (5, .same), (6, .same)], 1⟩)]
def NatHuge_b0 (l12 : Int → Int → Int → List Int → Option Bool) (a : Int) (b : Int) : Option (Bool) :=
  Option.bind (intoF (a, (64 : Int))) fun t =>
  bif decide (b = (0 : Int)) then l12 t (1 : Int) (0 : Int) (List.replicate (nat_lit 4096) (0 : Int)) else l12 t b (0 : Int) (List.replicate (nat_lit 4096) (0 : Int))
def NatHuge_b12 (l12 : Int → Int → Int → List Int → Option Bool) (t0 : Int) (t1 : Int) (t6 : Int) (h0 : List Int) : Option (Bool) :=
  bif decide (t6 < (4096 : Int)) then bif inRange t6 (List.length h0) then l12 t0 t1 (addI IntKind.i64 t6 (1 : Int)) (wrI h0 (Int.toNat t6) (18446744073709551615 : Int)) else none
else
  Option.bind (nAddF (h0, [t1])) fun t =>
    Option.bind (nSumF [AV.ints IntKind.u64 h0, AV.ints IntKind.u64 [], AV.ints IntKind.u64 [t1]]) fun t_1 =>
      Option.bind (nSubF (wrI (List.replicate (nat_lit 4097) (0 : Int)) (nat_lit 4096) t1, [subI IntKind.u64 t1 (1 : Int)])) fun t_2 =>
        Option.bind (nMulF (wrI (List.replicate (nat_lit 4097) (0 : Int)) (nat_lit 4096) t1, [(1 : Int)])) fun t_3 =>
          Option.bind (nShrF (wrI (List.replicate (nat_lit 4097) (0 : Int)) (nat_lit 4096) t1, (0 : Int))) fun t_4 =>
            bif !decide (t.2 = (21 : Int)) then some false
            else
              bif !decide (t_1.2 = (21 : Int)) then some false
              else
                bif !decide (t_2.2 = (21 : Int)) then some false
                else
                  bif !decide (t_3.2 = (21 : Int)) then some false
                  else
                    bif !decide ((Prod.snd t_4).2 = (21 : Int)) then some false
                    else
                      bif
                          !decide
                              (addI IntKind.i64
                                  (addI IntKind.i64 (addI IntKind.i64 (addI IntKind.i64 (↑(List.length t.1) : Int) (↑(List.length t_1.1) : Int)) (↑(List.length t_2.1) : Int))
                                    (↑(List.length t_3.1) : Int))
                                  (↑(List.length t_4.1) : Int) =
                                (0 : Int)) then
                        some false
                      else
                        Option.bind (nAddF (h0, [])) fun t =>
                          Option.bind (nMulF (h0, [(1 : Int)])) fun t_5 =>
                            Option.bind (nSubF (h0, [])) fun t_6 =>
                              Option.bind (nShlF ([(1 : Int)], subI IntKind.i64 (262143 : Int) t0)) fun t_7 =>
                                bif decide ((0 : Int) ≤ cvI IntKind.u64 t0) then
                                  Option.bind (nShlF ([shlI IntKind.u64 (1 : Int) (cvI IntKind.u64 t0)], subI IntKind.i64 (262144 : Int) t0)) fun t_8 =>
                                    bif !decide (t.2 = (0 : Int)) then some false
                                    else
                                      bif !decide (t_5.2 = (0 : Int)) then some false
                                      else
                                        bif !decide (t_6.2 = (0 : Int)) then some false
                                        else
                                          bif !decide (t_7.2 = (0 : Int)) then some false
                                          else
                                            Option.bind (sameF (t.1, h0)) fun t =>
                                              bif !t then some false
                                              else
                                                Option.bind (sameF (t_5.1, h0)) fun t =>
                                                  bif !t then some false
                                                  else
                                                    Option.bind (sameF (t_6.1, h0)) fun t =>
                                                      bif !t then some false
                                                      else
                                                        Option.bind (nBitsF t_7.1) fun t =>
                                                          bif !decide (t = subI IntKind.i64 (262144 : Int) t0) then some false
                                                          else
                                                            bif !decide (t_8.2 = (21 : Int)) then some false
                                                            else
                                                              bif !decide ((↑(List.length t_8.1) : Int) = (0 : Int)) then some false
                                                              else
                                                                Option.bind (nShlF ([(0 : Int), (0 : Int)], (4611686018427387904 : Int))) fun t =>
                                                                  Option.bind (nShrF (wrI (List.replicate (nat_lit 4097) (0 : Int)) (nat_lit 4096) t1, (4611686018427387904 : Int))) fun t_9 =>
                                                                    Option.bind (nMulF (wrI (List.replicate (nat_lit 4097) (0 : Int)) (nat_lit 4096) t1, [])) fun t_10 =>
                                                                      Option.bind (nShlF (h0, subI IntKind.i64 (-1 : Int) t0)) fun t_11 =>
                                                                        Option.bind (nShrF (h0, subI IntKind.i64 (-1 : Int) t0)) fun t_12 =>
                                                                          bif !decide (t.2 = (0 : Int)) then some false
                                                                          else
                                                                            bif !decide ((Prod.snd t_9).2 = (0 : Int)) then some false
                                                                            else
                                                                              bif !decide (t_10.2 = (0 : Int)) then some false
                                                                              else
                                                                                bif
                                                                                    !decide
                                                                                        (addI IntKind.i64
                                                                                            (addI IntKind.i64 (addI IntKind.i64 (↑(List.length t.1) : Int) (↑(List.length t_9.1) : Int))
                                                                                              (↑(List.length t_10.1) : Int))
                                                                                            (↑(List.length t_11.1) : Int) =
                                                                                          (0 : Int)) then
                                                                                  some false
                                                                                else
                                                                                  bif !(Prod.snd t_9).1 then some false
                                                                                  else
                                                                                    bif !decide (t_11.2 = (22 : Int)) then some false
                                                                                    else
                                                                                      bif !decide ((Prod.snd t_12).2 = (22 : Int)) then some false
                                                                                      else
                                                                                        Option.bind (nCmpF (wrI (List.replicate (nat_lit 4097) (0 : Int)) (nat_lit 4096) t1, h0)) fun t =>
                                                                                          bif decide (t = (1 : Int)) then
                                                                                            Option.bind (nCmpF (h0, wrI (List.replicate (nat_lit 4097) (0 : Int)) (nat_lit 4096) t1)) fun t =>
                                                                                              bif decide (t = (-1 : Int)) then
                                                                                                Option.bind (nBitsF (wrI (List.replicate (nat_lit 4097) (0 : Int)) (nat_lit 4096) t1)) fun t =>
                                                                                                  bif decide (t > (262144 : Int)) then
                                                                                                    Option.bind (nNormF (wrI (List.replicate (nat_lit 4097) (0 : Int)) (nat_lit 4096) t1)) fun t =>
                                                                                                      Option.bind (sameF (t, wrI (List.replicate (nat_lit 4097) (0 : Int)) (nat_lit 4096) t1)) fun t =>
                                                                                                        some t
                                                                                                  else some false
                                                                                              else some false
                                                                                          else some false
                                else none
mutual
def NatHuge_L12 : Nat → Int → Int → Int → (List Int) → Option (Bool)
  | 0, _, _, _, _ => none
  | k + 1, t0, t1, t6, h0 => NatHuge_b12 (NatHuge_L12 k) t0 t1 t6 h0
end
noncomputable def NatHuge_E : Env (dens [.bool]) := envOf S.tab [(68, mkF [.int .i64, .int .i64] [.int .i64] intoF), (40, mkF [.sl (.int .u64), .sl (.int .u64)] [.sl (.int .u64), .int .i64] nAddF), (34, mkF [.sl (.sl (.int .u64))] [.sl (.int .u64), .int .i64] nSumF), (30, mkF [.sl (.int .u64), .sl (.int .u64)] [.sl (.int .u64), .int .i64] nSubF), (38, mkF [.sl (.int .u64), .sl (.int .u64)] [.sl (.int .u64), .int .i64] nMulF), (52, mkF [.sl (.int .u64), .int .i64] [.sl (.int .u64), .bool, .int .i64] nShrF), (31, mkF [.sl (.int .u64), .sl (.int .u64)] [.bool] sameF), (42, mkF [.sl (.int .u64), .int .i64] [.sl (.int .u64), .int .i64] nShlF), (43, mkF [.sl (.int .u64)] [.int .i64] nBitsF), (33, mkF [.sl (.int .u64), .sl (.int .u64)] [.int .i64] nCmpF), (32, mkF [.sl (.int .u64)] [.sl (.int .u64)] nNormF)] Go.Proofs.Try.f11 [4] [.bool]
theorem NatHuge_s0 (r : Rec (dens [.bool])) (a : Int) (b : Int) : evT NatHuge_E NatHuge_h r 3000 false [.code (bodyOf Go.Proofs.Try.f11)] (T0 0 [.int .i64 a, .int .u64 b]) [] = NatHuge_b0 (fun t0 t1 t6 h0 => r (todoOf 12 (bodyOf Go.Proofs.Try.f11)) [((0 : Nat), AV.int IntKind.i64 t0), ((1 : Nat), AV.int IntKind.u64 t1), ((5 : Nat), AV.vec (nat_lit 0) (nat_lit 1)), ((6 : Nat), AV.int IntKind.i64 t6)] [Blk.I (nat_lit 36) IntKind.u64 h0]) a b := by kernel_rfl
theorem NatHuge_s12 (r : Rec (dens [.bool])) (t0 : Int) (t1 : Int) (t6 : Int) (h0 : List Int) : evT NatHuge_E NatHuge_h r 3000 true (todoOf 12 (bodyOf Go.Proofs.Try.f11)) [((0 : Nat), AV.int IntKind.i64 t0), ((1 : Nat), AV.int IntKind.u64 t1), ((5 : Nat), AV.vec (nat_lit 0) (nat_lit 1)), ((6 : Nat), AV.int IntKind.i64 t6)] [Blk.I (nat_lit 36) IntKind.u64 h0] = NatHuge_b12 (fun t0 t1 t6 h0 => r (todoOf 12 (bodyOf Go.Proofs.Try.f11)) [((0 : Nat), AV.int IntKind.i64 t0), ((1 : Nat), AV.int IntKind.u64 t1), ((5 : Nat), AV.vec (nat_lit 0) (nat_lit 1)), ((6 : Nat), AV.int IntKind.i64 t6)] [Blk.I (nat_lit 36) IntKind.u64 h0]) t0 t1 t6 h0 := by kernel_rfl
theorem NatHuge_k : ∀ k, (∀ (t0 : Int) (t1 : Int) (t6 : Int) (h0 : List Int), evK NatHuge_E NatHuge_h 3000 k (todoOf 12 (bodyOf Go.Proofs.Try.f11)) [((0 : Nat), AV.int IntKind.i64 t0), ((1 : Nat), AV.int IntKind.u64 t1), ((5 : Nat), AV.vec (nat_lit 0) (nat_lit 1)), ((6 : Nat), AV.int IntKind.i64 t6)] [Blk.I (nat_lit 36) IntKind.u64 h0] = NatHuge_L12 k t0 t1 t6 h0)
  | 0 => by
    refine ?_ <;> intros <;> rfl
  | k + 1 => by
    have ih := NatHuge_k k
    refine ?_ <;> intros
    · exact ((NatHuge_s12 _ _ _ _ _).trans (by simp only [ih] <;> rfl))
theorem NatHuge_ev (k : Nat) (a : Int) (b : Int) : evM NatHuge_E NatHuge_h 3000 k [.code (bodyOf Go.Proofs.Try.f11)] (T0 0 [.int .i64 a, .int .u64 b]) [] = NatHuge_b0 (NatHuge_L12 k) a b := by
  refine (NatHuge_s0 _ a b).trans ?_
  simp only [NatHuge_k k] <;> rfl

/-! ### plumb/plumblaw03.lent -/
def lent_h : Nat → Option Head := hintOf []
def lent_b0  (a : List Int) : Option (List Int) :=
  bif decide ((↑(List.length a) : Int) * (8 : Int) ≤ (140737488355328 : Int)) then
  bif decide ((↑(List.length (a ++ [(7777 : Int), (8888 : Int)])) : Int) * (8 : Int) ≤ (140737488355328 : Int)) then some (a ++ [(7777 : Int), (8888 : Int)]) else none
else none
noncomputable def lent_E : Env (dens [.sl (.int .u64)]) := envOf S.tab [] Go.Proofs.Try.f45 [2] [.sl (.int .u64)]
theorem lent_s0 (r : Rec (dens [.sl (.int .u64)])) (a : List Int) : evT lent_E lent_h r 3000 false [.code (bodyOf Go.Proofs.Try.f45)] (T0 0 [.ints .u64 a]) [] = lent_b0  a := by kernel_rfl
theorem lent_ev (k : Nat) (a : List Int) : evM lent_E lent_h 3000 k [.code (bodyOf Go.Proofs.Try.f45)] (T0 0 [.ints .u64 a]) [] = lent_b0  a := by
  exact lent_s0 _ a

/-! ### plumb/plumblaw03.num -/
def num_h : Nat → Option Head := hintOf []
def num_b0  (a : Int) : Option (Int) :=
  some a
noncomputable def num_E : Env (dens [.int .i64]) := envOf S.tab [] Go.Proofs.Try.f49 [2] [.int .i64]
theorem num_s0 (r : Rec (dens [.int .i64])) (a : Int) : evT num_E num_h r 3000 false [.code (bodyOf Go.Proofs.Try.f49)] (T0 0 [.int .i64 a]) [] = num_b0  a := by kernel_rfl
theorem num_ev (k : Nat) (a : Int) : evM num_E num_h 3000 k [.code (bodyOf Go.Proofs.Try.f49)] (T0 0 [.int .i64 a]) [] = num_b0  a := by
  exact num_s0 _ a

/-! ### plumb/plumblaw03.same -/
def same3_h : Nat → Option Head := hintOf [(8, ⟨[(0, .same), (1, .same), (5, .same)], 0⟩)]
def same3_b0 (l8 : List Int → List Int → Int → Option Bool) (a : List Int) (b : List Int) : Option (Bool) :=
  bif !decide ((↑(List.length a) : Int) = (↑(List.length b) : Int)) then some false else l8 a b (0 : Int)
def same3_b8 (l8 : List Int → List Int → Int → Option Bool) (t0 : List Int) (t1 : List Int) (t5 : Int) : Option (Bool) :=
  bif decide (t5 < (↑(List.length t0) : Int)) then
  bif inRange t5 (List.length t0) then bif inRange t5 (List.length t1) then bif !decide (rdI t0 t5 = rdI t1 t5) then some false else l8 t0 t1 (addI IntKind.i64 t5 (1 : Int)) else none else none
else some true
mutual
def same3_L8 : Nat → (List Int) → (List Int) → Int → Option (Bool)
  | 0, _, _, _ => none
  | k + 1, t0, t1, t5 => same3_b8 (same3_L8 k) t0 t1 t5
end
noncomputable def same3_E : Env (dens [.bool]) := envOf S.tab [] Go.Proofs.Try.f48 [4] [.bool]
theorem same3_s0 (r : Rec (dens [.bool])) (a : List Int) (b : List Int) : evT same3_E same3_h r 3000 false [.code (bodyOf Go.Proofs.Try.f48)] (T0 0 [.ints .u64 a, .ints .u64 b]) [] = same3_b0 (fun t0 t1 t5 => r (todoOf 8 (bodyOf Go.Proofs.Try.f48)) [((0 : Nat), AV.ints IntKind.u64 t0), ((1 : Nat), AV.ints IntKind.u64 t1), ((5 : Nat), AV.int IntKind.i64 t5)] []) a b := by kernel_rfl
theorem same3_s8 (r : Rec (dens [.bool])) (t0 : List Int) (t1 : List Int) (t5 : Int) : evT same3_E same3_h r 3000 true (todoOf 8 (bodyOf Go.Proofs.Try.f48)) [((0 : Nat), AV.ints IntKind.u64 t0), ((1 : Nat), AV.ints IntKind.u64 t1), ((5 : Nat), AV.int IntKind.i64 t5)] [] = same3_b8 (fun t0 t1 t5 => r (todoOf 8 (bodyOf Go.Proofs.Try.f48)) [((0 : Nat), AV.ints IntKind.u64 t0), ((1 : Nat), AV.ints IntKind.u64 t1), ((5 : Nat), AV.int IntKind.i64 t5)] []) t0 t1 t5 := by kernel_rfl
theorem same3_k : ∀ k, (∀ (t0 : List Int) (t1 : List Int) (t5 : Int), evK same3_E same3_h 3000 k (todoOf 8 (bodyOf Go.Proofs.Try.f48)) [((0 : Nat), AV.ints IntKind.u64 t0), ((1 : Nat), AV.ints IntKind.u64 t1), ((5 : Nat), AV.int IntKind.i64 t5)] [] = same3_L8 k t0 t1 t5)
  | 0 => by
    refine ?_ <;> intros <;> rfl
  | k + 1 => by
    have ih := same3_k k
    refine ?_ <;> intros
    · exact ((same3_s8 _ _ _ _).trans (by simp only [ih] <;> rfl))
theorem same3_ev (k : Nat) (a : List Int) (b : List Int) : evM same3_E same3_h 3000 k [.code (bodyOf Go.Proofs.Try.f48)] (T0 0 [.ints .u64 a, .ints .u64 b]) [] = same3_b0 (same3_L8 k) a b := by
  refine (same3_s0 _ a b).trans ?_
  simp only [same3_k k] <;> rfl

/-! ### plumb/plumblaw03.kept -/
def kept_h : Nat → Option Head := hintOf []
def kept_b0  (a : List Int) (b : List Int) : Option (Bool) :=
  bif decide ((↑(List.length a) : Int) = addI IntKind.i64 (↑(List.length b) : Int) (2 : Int)) then
  bif bif decide ((0 : Int) ≤ (↑(List.length b) : Int)) then decide ((↑(List.length b) : Int) ≤ (↑(List.length a) : Int)) else false then
    Option.bind (sameF (List.take (Int.toNat (↑(List.length b) : Int)) a, b)) fun t =>
      bif t then
        bif inRange (↑(List.length b) : Int) (List.length a) then
          bif decide (rdI a (↑(List.length b) : Int) = (7777 : Int)) then
            bif inRange (addI IntKind.i64 (↑(List.length b) : Int) (1 : Int)) (List.length a) then some (decide (rdI a (addI IntKind.i64 (↑(List.length b) : Int) (1 : Int)) = (8888 : Int))) else none
          else some false
        else none
      else some false
  else none
else some false
noncomputable def kept_E : Env (dens [.bool]) := envOf S.tab [(48, mkF [.sl (.int .u64), .sl (.int .u64)] [.bool] sameF)] Go.Proofs.Try.f50 [4] [.bool]
theorem kept_s0 (r : Rec (dens [.bool])) (a : List Int) (b : List Int) : evT kept_E kept_h r 3000 false [.code (bodyOf Go.Proofs.Try.f50)] (T0 0 [.ints .u64 a, .ints .u64 b]) [] = kept_b0  a b := by kernel_rfl
theorem kept_ev (k : Nat) (a : List Int) (b : List Int) : evM kept_E kept_h 3000 k [.code (bodyOf Go.Proofs.Try.f50)] (T0 0 [.ints .u64 a, .ints .u64 b]) [] = kept_b0  a b := by
  exact kept_s0 _ a b

/-! ### plumb/quot.Pow -/
def qPow_h : Nat → Option Head := hintOf [(26, ⟨[(0, .same), (1, .same), (7, .same), (8, .same)], 0⟩)]
def qPow_b0 (l26 : List Int → Int → List Int → Int → Option (List Int × Int)) (a : List Int) (b : Int) : Option (List Int × Int) :=
  Option.bind (nNormF a) fun t =>
  Option.bind (nBitsF t) fun t_1 =>
    bif decide (b < (0 : Int)) then some ([], (31 : Int))
    else
      bif decide (b = (0 : Int)) then Option.bind (nFromF (1 : Int)) fun t => some (t, (0 : Int))
      else
        bif decide (t_1 < (2 : Int)) then some (t, (0 : Int))
        else
          bif !decide (subI IntKind.i64 t_1 (1 : Int) = (0 : Int)) then
            bif decide (b > divI IntKind.i64 (262144 : Int) (subI IntKind.i64 t_1 (1 : Int))) then some ([], (21 : Int))
            else Option.bind (nFromF (1 : Int)) fun t_2 => Option.bind (wLenF (cvI IntKind.u64 b)) fun t_3 => l26 t b t_2 (subI IntKind.i64 t_3 (1 : Int))
          else none
def qPow_b26 (l26 : List Int → Int → List Int → Int → Option (List Int × Int)) (t0 : List Int) (t1 : Int) (t7 : List Int) (t8 : Int) : Option (List Int × Int) :=
  bif decide (t8 ≥ (0 : Int)) then
  Option.bind (nMulF (t7, t7)) fun t =>
    bif decide ((0 : Int) ≤ t8) then
      bif decide (andI IntKind.i64 (shrI IntKind.i64 t1 t8) (1 : Int) = (1 : Int)) then
        Option.bind (nMulF (t.1, t0)) fun t_1 =>
          bif !decide (t.2 = (0 : Int)) then some ([], (21 : Int)) else bif !decide (t_1.2 = (0 : Int)) then some ([], (21 : Int)) else l26 t0 t1 t_1.1 (subI IntKind.i64 t8 (1 : Int))
      else bif !decide (t.2 = (0 : Int)) then some ([], (21 : Int)) else l26 t0 t1 t.1 (subI IntKind.i64 t8 (1 : Int))
    else none
else some (t7, (0 : Int))
mutual
def qPow_L26 : Nat → (List Int) → Int → (List Int) → Int → Option (List Int × Int)
  | 0, _, _, _, _ => none
  | k + 1, t0, t1, t7, t8 => qPow_b26 (qPow_L26 k) t0 t1 t7 t8
end
noncomputable def qPow_E : Env (dens [.sl (.int .u64), .int .i64]) := envOf S.tab [(32, mkF [.sl (.int .u64)] [.sl (.int .u64)] nNormF), (43, mkF [.sl (.int .u64)] [.int .i64] nBitsF), (62, mkF [.int .u64] [.sl (.int .u64)] nFromF), (38, mkF [.sl (.int .u64), .sl (.int .u64)] [.sl (.int .u64), .int .i64] nMulF), (115, mkF [.int .u64] [.int .i64] wLenF)] Go.Proofs.Try.f46 [4, 5] [.sl (.int .u64), .int .i64]
theorem qPow_s0 (r : Rec (dens [.sl (.int .u64), .int .i64])) (a : List Int) (b : Int) : evT qPow_E qPow_h r 3000 false [.code (bodyOf Go.Proofs.Try.f46)] (T0 0 [.ints .u64 a, .int .i64 b]) [] = qPow_b0 (fun t0 t1 t7 t8 => r (todoOf 26 (bodyOf Go.Proofs.Try.f46)) [((0 : Nat), AV.ints IntKind.u64 t0), ((1 : Nat), AV.int IntKind.i64 t1), ((7 : Nat), AV.ints IntKind.u64 t7), ((8 : Nat), AV.int IntKind.i64 t8)] []) a b := by kernel_rfl
theorem qPow_s26 (r : Rec (dens [.sl (.int .u64), .int .i64])) (t0 : List Int) (t1 : Int) (t7 : List Int) (t8 : Int) : evT qPow_E qPow_h r 3000 true (todoOf 26 (bodyOf Go.Proofs.Try.f46)) [((0 : Nat), AV.ints IntKind.u64 t0), ((1 : Nat), AV.int IntKind.i64 t1), ((7 : Nat), AV.ints IntKind.u64 t7), ((8 : Nat), AV.int IntKind.i64 t8)] [] = qPow_b26 (fun t0 t1 t7 t8 => r (todoOf 26 (bodyOf Go.Proofs.Try.f46)) [((0 : Nat), AV.ints IntKind.u64 t0), ((1 : Nat), AV.int IntKind.i64 t1), ((7 : Nat), AV.ints IntKind.u64 t7), ((8 : Nat), AV.int IntKind.i64 t8)] []) t0 t1 t7 t8 := by kernel_rfl
theorem qPow_k : ∀ k, (∀ (t0 : List Int) (t1 : Int) (t7 : List Int) (t8 : Int), evK qPow_E qPow_h 3000 k (todoOf 26 (bodyOf Go.Proofs.Try.f46)) [((0 : Nat), AV.ints IntKind.u64 t0), ((1 : Nat), AV.int IntKind.i64 t1), ((7 : Nat), AV.ints IntKind.u64 t7), ((8 : Nat), AV.int IntKind.i64 t8)] [] = qPow_L26 k t0 t1 t7 t8)
  | 0 => by
    refine ?_ <;> intros <;> rfl
  | k + 1 => by
    have ih := qPow_k k
    refine ?_ <;> intros
    · exact ((qPow_s26 _ _ _ _ _).trans (by simp only [ih] <;> rfl))
theorem qPow_ev (k : Nat) (a : List Int) (b : Int) : evM qPow_E qPow_h 3000 k [.code (bodyOf Go.Proofs.Try.f46)] (T0 0 [.ints .u64 a, .int .i64 b]) [] = qPow_b0 (qPow_L26 k) a b := by
  refine (qPow_s0 _ a b).trans ?_
  simp only [qPow_k k] <;> rfl

/-! ### plumb/plumbref03.Norm -/
def r3Norm_h : Nat → Option Head := hintOf [(4, ⟨[(0, .same), (3, .same)], 0⟩), (12, ⟨[(0, .same), (3, .same), (4, .vec 36), (5, .same)], 1⟩)]
def r3Norm_b0 (l4 : List Int → Int → Option (List Int)) (l12 : List Int → Int → Int → List Int → Option (List Int)) (a : List Int) : Option (List Int) :=
  l4 a (↑(List.length a) : Int)
def r3Norm_b4 (l4 : List Int → Int → Option (List Int)) (l12 : List Int → Int → Int → List Int → Option (List Int)) (t0 : List Int) (t3 : Int) : Option (List Int) :=
  bif decide (t3 > (0 : Int)) then
  bif inRange (subI IntKind.i64 t3 (1 : Int)) (List.length t0) then
    bif decide (rdI t0 (subI IntKind.i64 t3 (1 : Int)) = (0 : Int)) then l4 t0 (subI IntKind.i64 t3 (1 : Int)) else l12 t0 t3 (0 : Int) []
  else none
else l12 t0 t3 (0 : Int) []
def r3Norm_b12 (l4 : List Int → Int → Option (List Int)) (l12 : List Int → Int → Int → List Int → Option (List Int)) (t0 : List Int) (t3 : Int) (t5 : Int) (h0 : List Int) : Option (List Int) :=
  bif decide (t5 < t3) then
  bif inRange t5 (List.length t0) then
    bif decide ((↑(List.length (h0 ++ [rdI t0 t5])) : Int) * (8 : Int) ≤ (140737488355328 : Int)) then l12 t0 t3 (addI IntKind.i64 t5 (1 : Int)) (h0 ++ [rdI t0 t5]) else none
  else none
else some h0
mutual
def r3Norm_L4 : Nat → (List Int) → Int → Option (List Int)
  | 0, _, _ => none
  | k + 1, t0, t3 => r3Norm_b4 (r3Norm_L4 k) (r3Norm_L12 k) t0 t3
def r3Norm_L12 : Nat → (List Int) → Int → Int → (List Int) → Option (List Int)
  | 0, _, _, _, _ => none
  | k + 1, t0, t3, t5, h0 => r3Norm_b12 (r3Norm_L4 k) (r3Norm_L12 k) t0 t3 t5 h0
end
noncomputable def r3Norm_E : Env (dens [.sl (.int .u64)]) := envOf S.tab [] Go.Proofs.Try.f117 [2] [.sl (.int .u64)]
theorem r3Norm_s0 (r : Rec (dens [.sl (.int .u64)])) (a : List Int) : evT r3Norm_E r3Norm_h r 3000 false [.code (bodyOf Go.Proofs.Try.f117)] (T0 0 [.ints .u64 a]) [] = r3Norm_b0 (fun t0 t3 => r (todoOf 4 (bodyOf Go.Proofs.Try.f117)) [((0 : Nat), AV.ints IntKind.u64 t0), ((3 : Nat), AV.int IntKind.i64 t3)] []) (fun t0 t3 t5 h0 => r (todoOf 12 (bodyOf Go.Proofs.Try.f117)) [((0 : Nat), AV.ints IntKind.u64 t0), ((3 : Nat), AV.int IntKind.i64 t3), ((4 : Nat), AV.vec (nat_lit 0) (nat_lit 1)), ((5 : Nat), AV.int IntKind.i64 t5)] [Blk.I (nat_lit 36) IntKind.u64 h0]) a := by kernel_rfl
theorem r3Norm_s4 (r : Rec (dens [.sl (.int .u64)])) (t0 : List Int) (t3 : Int) : evT r3Norm_E r3Norm_h r 3000 true (todoOf 4 (bodyOf Go.Proofs.Try.f117)) [((0 : Nat), AV.ints IntKind.u64 t0), ((3 : Nat), AV.int IntKind.i64 t3)] [] = r3Norm_b4 (fun t0 t3 => r (todoOf 4 (bodyOf Go.Proofs.Try.f117)) [((0 : Nat), AV.ints IntKind.u64 t0), ((3 : Nat), AV.int IntKind.i64 t3)] []) (fun t0 t3 t5 h0 => r (todoOf 12 (bodyOf Go.Proofs.Try.f117)) [((0 : Nat), AV.ints IntKind.u64 t0), ((3 : Nat), AV.int IntKind.i64 t3), ((4 : Nat), AV.vec (nat_lit 0) (nat_lit 1)), ((5 : Nat), AV.int IntKind.i64 t5)] [Blk.I (nat_lit 36) IntKind.u64 h0]) t0 t3 := by kernel_rfl
theorem r3Norm_s12 (r : Rec (dens [.sl (.int .u64)])) (t0 : List Int) (t3 : Int) (t5 : Int) (h0 : List Int) : evT r3Norm_E r3Norm_h r 3000 true (todoOf 12 (bodyOf Go.Proofs.Try.f117)) [((0 : Nat), AV.ints IntKind.u64 t0), ((3 : Nat), AV.int IntKind.i64 t3), ((4 : Nat), AV.vec (nat_lit 0) (nat_lit 1)), ((5 : Nat), AV.int IntKind.i64 t5)] [Blk.I (nat_lit 36) IntKind.u64 h0] = r3Norm_b12 (fun t0 t3 => r (todoOf 4 (bodyOf Go.Proofs.Try.f117)) [((0 : Nat), AV.ints IntKind.u64 t0), ((3 : Nat), AV.int IntKind.i64 t3)] []) (fun t0 t3 t5 h0 => r (todoOf 12 (bodyOf Go.Proofs.Try.f117)) [((0 : Nat), AV.ints IntKind.u64 t0), ((3 : Nat), AV.int IntKind.i64 t3), ((4 : Nat), AV.vec (nat_lit 0) (nat_lit 1)), ((5 : Nat), AV.int IntKind.i64 t5)] [Blk.I (nat_lit 36) IntKind.u64 h0]) t0 t3 t5 h0 := by kernel_rfl
theorem r3Norm_k : ∀ k, (∀ (t0 : List Int) (t3 : Int), evK r3Norm_E r3Norm_h 3000 k (todoOf 4 (bodyOf Go.Proofs.Try.f117)) [((0 : Nat), AV.ints IntKind.u64 t0), ((3 : Nat), AV.int IntKind.i64 t3)] [] = r3Norm_L4 k t0 t3) ∧ (∀ (t0 : List Int) (t3 : Int) (t5 : Int) (h0 : List Int), evK r3Norm_E r3Norm_h 3000 k (todoOf 12 (bodyOf Go.Proofs.Try.f117)) [((0 : Nat), AV.ints IntKind.u64 t0), ((3 : Nat), AV.int IntKind.i64 t3), ((4 : Nat), AV.vec (nat_lit 0) (nat_lit 1)), ((5 : Nat), AV.int IntKind.i64 t5)] [Blk.I (nat_lit 36) IntKind.u64 h0] = r3Norm_L12 k t0 t3 t5 h0)
  | 0 => by
    refine ⟨?_, ?_⟩ <;> intros <;> rfl
  | k + 1 => by
    have ih := r3Norm_k k
    refine ⟨?_, ?_⟩ <;> intros
    · exact ((r3Norm_s4 _ _ _).trans (by simp only [ih] <;> rfl))
    · exact ((r3Norm_s12 _ _ _ _ _).trans (by simp only [ih] <;> rfl))
theorem r3Norm_ev (k : Nat) (a : List Int) : evM r3Norm_E r3Norm_h 3000 k [.code (bodyOf Go.Proofs.Try.f117)] (T0 0 [.ints .u64 a]) [] = r3Norm_b0 (r3Norm_L4 k) (r3Norm_L12 k) a := by
  refine (r3Norm_s0 _ a).trans ?_
  simp only [r3Norm_k k] <;> rfl

/-! ### plumb/plumbref03.Bits -/
def r3Bits_h : Nat → Option Head := hintOf [(4, ⟨[(0, .same), (3, .same)], 0⟩), (14, ⟨[(4, .same), (5, .same)], 0⟩)]
def r3Bits_b0 (l4 : List Int → Int → Option Int) (l14 : Int → Int → Option Int) (a : List Int) : Option (Int) :=
  l4 a (subI IntKind.i64 (↑(List.length a) : Int) (1 : Int))
def r3Bits_b4 (l4 : List Int → Int → Option Int) (l14 : Int → Int → Option Int) (t0 : List Int) (t3 : Int) : Option (Int) :=
  bif decide (t3 ≥ (0 : Int)) then
  bif inRange t3 (List.length t0) then
    bif decide (rdI t0 t3 > (0 : Int)) then bif inRange t3 (List.length t0) then l14 (mulI IntKind.i64 (64 : Int) t3) (rdI t0 t3) else none else l4 t0 (subI IntKind.i64 t3 (1 : Int))
  else none
else some (0 : Int)
def r3Bits_b14 (l4 : List Int → Int → Option Int) (l14 : Int → Int → Option Int) (t4 : Int) (t5 : Int) : Option (Int) :=
  bif decide (t5 > (0 : Int)) then l14 (addI IntKind.i64 t4 (1 : Int)) (shrI IntKind.u64 t5 (1 : Int)) else some t4
mutual
def r3Bits_L4 : Nat → (List Int) → Int → Option (Int)
  | 0, _, _ => none
  | k + 1, t0, t3 => r3Bits_b4 (r3Bits_L4 k) (r3Bits_L14 k) t0 t3
def r3Bits_L14 : Nat → Int → Int → Option (Int)
  | 0, _, _ => none
  | k + 1, t4, t5 => r3Bits_b14 (r3Bits_L4 k) (r3Bits_L14 k) t4 t5
end
noncomputable def r3Bits_E : Env (dens [.int .i64]) := envOf S.tab [] Go.Proofs.Try.f118 [2] [.int .i64]
theorem r3Bits_s0 (r : Rec (dens [.int .i64])) (a : List Int) : evT r3Bits_E r3Bits_h r 3000 false [.code (bodyOf Go.Proofs.Try.f118)] (T0 0 [.ints .u64 a]) [] = r3Bits_b0 (fun t0 t3 => r (todoOf 4 (bodyOf Go.Proofs.Try.f118)) [((0 : Nat), AV.ints IntKind.u64 t0), ((3 : Nat), AV.int IntKind.i64 t3)] []) (fun t4 t5 => r (todoOf 14 (bodyOf Go.Proofs.Try.f118)) [((4 : Nat), AV.int IntKind.i64 t4), ((5 : Nat), AV.int IntKind.u64 t5)] []) a := by kernel_rfl
theorem r3Bits_s4 (r : Rec (dens [.int .i64])) (t0 : List Int) (t3 : Int) : evT r3Bits_E r3Bits_h r 3000 true (todoOf 4 (bodyOf Go.Proofs.Try.f118)) [((0 : Nat), AV.ints IntKind.u64 t0), ((3 : Nat), AV.int IntKind.i64 t3)] [] = r3Bits_b4 (fun t0 t3 => r (todoOf 4 (bodyOf Go.Proofs.Try.f118)) [((0 : Nat), AV.ints IntKind.u64 t0), ((3 : Nat), AV.int IntKind.i64 t3)] []) (fun t4 t5 => r (todoOf 14 (bodyOf Go.Proofs.Try.f118)) [((4 : Nat), AV.int IntKind.i64 t4), ((5 : Nat), AV.int IntKind.u64 t5)] []) t0 t3 := by kernel_rfl
theorem r3Bits_s14 (r : Rec (dens [.int .i64])) (t4 : Int) (t5 : Int) : evT r3Bits_E r3Bits_h r 3000 true (todoOf 14 (bodyOf Go.Proofs.Try.f118)) [((4 : Nat), AV.int IntKind.i64 t4), ((5 : Nat), AV.int IntKind.u64 t5)] [] = r3Bits_b14 (fun t0 t3 => r (todoOf 4 (bodyOf Go.Proofs.Try.f118)) [((0 : Nat), AV.ints IntKind.u64 t0), ((3 : Nat), AV.int IntKind.i64 t3)] []) (fun t4 t5 => r (todoOf 14 (bodyOf Go.Proofs.Try.f118)) [((4 : Nat), AV.int IntKind.i64 t4), ((5 : Nat), AV.int IntKind.u64 t5)] []) t4 t5 := by kernel_rfl
theorem r3Bits_k : ∀ k, (∀ (t0 : List Int) (t3 : Int), evK r3Bits_E r3Bits_h 3000 k (todoOf 4 (bodyOf Go.Proofs.Try.f118)) [((0 : Nat), AV.ints IntKind.u64 t0), ((3 : Nat), AV.int IntKind.i64 t3)] [] = r3Bits_L4 k t0 t3) ∧ (∀ (t4 : Int) (t5 : Int), evK r3Bits_E r3Bits_h 3000 k (todoOf 14 (bodyOf Go.Proofs.Try.f118)) [((4 : Nat), AV.int IntKind.i64 t4), ((5 : Nat), AV.int IntKind.u64 t5)] [] = r3Bits_L14 k t4 t5)
  | 0 => by
    refine ⟨?_, ?_⟩ <;> intros <;> rfl
  | k + 1 => by
    have ih := r3Bits_k k
    refine ⟨?_, ?_⟩ <;> intros
    · exact ((r3Bits_s4 _ _ _).trans (by simp only [ih] <;> rfl))
    · exact ((r3Bits_s14 _ _ _).trans (by simp only [ih] <;> rfl))
theorem r3Bits_ev (k : Nat) (a : List Int) : evM r3Bits_E r3Bits_h 3000 k [.code (bodyOf Go.Proofs.Try.f118)] (T0 0 [.ints .u64 a]) [] = r3Bits_b0 (r3Bits_L4 k) (r3Bits_L14 k) a := by
  refine (r3Bits_s0 _ a).trans ?_
  simp only [r3Bits_k k] <;> rfl

/-! ### plumb/plumbref03.Mul -/
def r3Mul_h : Nat → Option Head := hintOf [(6, ⟨[(0, .same), (1, .same), (5, .same), (6, .same)], 1⟩), (16, ⟨[(0, .same), (1, .same), (5, .same), (6, .same), (7, .same), (8, .same), (9, .same)], 1⟩), (34, ⟨[(5, .same), (12, .vec 36), (13, .same)], 2⟩)]
def r3Mul_b0 (l6 : List Int → List Int → Int → List Int → Option (List Int)) (l16 : List Int → List Int → Int → Int → Int → Int → List Int → Option (List Int)) (l34 : Int → List Int → List Int → Option (List Int)) (a : List Int) (b : List Int) : Option (List Int) :=
  bif
    bif decide ((0 : Int) ≤ addI IntKind.i64 (mulI IntKind.i64 (2 : Int) (addI IntKind.i64 (↑(List.length a) : Int) (↑(List.length b) : Int))) (1 : Int)) then
      decide (addI IntKind.i64 (mulI IntKind.i64 (2 : Int) (addI IntKind.i64 (↑(List.length a) : Int) (↑(List.length b) : Int))) (1 : Int) * (8 : Int) ≤ (281474976710656 : Int))
    else false then
  l6 a b (0 : Int) (List.replicate (Int.toNat (addI IntKind.i64 (mulI IntKind.i64 (2 : Int) (addI IntKind.i64 (↑(List.length a) : Int) (↑(List.length b) : Int))) (1 : Int))) (0 : Int))
else none
def r3Mul_b6 (l6 : List Int → List Int → Int → List Int → Option (List Int)) (l16 : List Int → List Int → Int → Int → Int → Int → List Int → Option (List Int)) (l34 : Int → List Int → List Int → Option (List Int)) (t0 : List Int) (t1 : List Int) (t6 : Int) (h0 : List Int) : Option (List Int) :=
  bif decide (t6 < mulI IntKind.i64 (2 : Int) (↑(List.length t0) : Int)) then
  bif inRange (divI IntKind.i64 t6 (2 : Int)) (List.length t0) then
    bif decide ((0 : Int) ≤ mulI IntKind.i64 (32 : Int) (remI t6 (2 : Int))) then
      l16 t0 t1 t6 (andI IntKind.u64 (shrI IntKind.u64 (rdI t0 (divI IntKind.i64 t6 (2 : Int))) (mulI IntKind.i64 (32 : Int) (remI t6 (2 : Int)))) (4294967295 : Int)) (0 : Int) (0 : Int) h0
    else none
  else none
else l34 (0 : Int) h0 []
def r3Mul_b16 (l6 : List Int → List Int → Int → List Int → Option (List Int)) (l16 : List Int → List Int → Int → Int → Int → Int → List Int → Option (List Int)) (l34 : Int → List Int → List Int → Option (List Int)) (t0 : List Int) (t1 : List Int) (t6 : Int) (t7 : Int) (t8 : Int) (t9 : Int) (h0 : List Int) : Option (List Int) :=
  bif decide (t9 < mulI IntKind.i64 (2 : Int) (↑(List.length t1) : Int)) then
  bif inRange (divI IntKind.i64 t9 (2 : Int)) (List.length t1) then
    bif decide ((0 : Int) ≤ mulI IntKind.i64 (32 : Int) (remI t9 (2 : Int))) then
      bif inRange (addI IntKind.i64 t6 t9) (List.length h0) then
        bif inRange (addI IntKind.i64 t6 t9) (List.length h0) then
          l16 t0 t1 t6 t7
            (shrI IntKind.u64
              (addI IntKind.u64
                (addI IntKind.u64
                  (mulI IntKind.u64 t7 (andI IntKind.u64 (shrI IntKind.u64 (rdI t1 (divI IntKind.i64 t9 (2 : Int))) (mulI IntKind.i64 (32 : Int) (remI t9 (2 : Int)))) (4294967295 : Int)))
                  (rdN h0 (Int.toNat (addI IntKind.i64 t6 t9))))
                t8)
              (32 : Int))
            (addI IntKind.i64 t9 (1 : Int))
            (wrI h0 (Int.toNat (addI IntKind.i64 t6 t9))
              (andI IntKind.u64
                (addI IntKind.u64
                  (addI IntKind.u64
                    (mulI IntKind.u64 t7 (andI IntKind.u64 (shrI IntKind.u64 (rdI t1 (divI IntKind.i64 t9 (2 : Int))) (mulI IntKind.i64 (32 : Int) (remI t9 (2 : Int)))) (4294967295 : Int)))
                    (rdN h0 (Int.toNat (addI IntKind.i64 t6 t9))))
                  t8)
                (4294967295 : Int)))
        else none
      else none
    else none
  else none
else
  bif inRange (addI IntKind.i64 t6 (mulI IntKind.i64 (2 : Int) (↑(List.length t1) : Int))) (List.length h0) then
    bif inRange (addI IntKind.i64 t6 (mulI IntKind.i64 (2 : Int) (↑(List.length t1) : Int))) (List.length h0) then
      l6 t0 t1 (addI IntKind.i64 t6 (1 : Int))
        (wrI h0 (Int.toNat (addI IntKind.i64 t6 (mulI IntKind.i64 (2 : Int) (↑(List.length t1) : Int))))
          (addI IntKind.u64 (rdN h0 (Int.toNat (addI IntKind.i64 t6 (mulI IntKind.i64 (2 : Int) (↑(List.length t1) : Int))))) t8))
    else none
  else none
def r3Mul_b34 (l6 : List Int → List Int → Int → List Int → Option (List Int)) (l16 : List Int → List Int → Int → Int → Int → Int → List Int → Option (List Int)) (l34 : Int → List Int → List Int → Option (List Int)) (t13 : Int) (h0 : List Int) (h1 : List Int) : Option (List Int) :=
  bif decide (addI IntKind.i64 t13 (1 : Int) < (↑(List.length h0) : Int)) then
  bif inRange t13 (List.length h0) then
    bif inRange (addI IntKind.i64 t13 (1 : Int)) (List.length h0) then
      bif
          decide
            ((↑(List.length (h1 ++ [orI IntKind.u64 (rdN h0 (Int.toNat t13)) (shlI IntKind.u64 (rdN h0 (Int.toNat (addI IntKind.i64 t13 (1 : Int)))) (32 : Int))])) : Int) * (8 : Int) ≤
              (140737488355328 : Int)) then
        l34 (addI IntKind.i64 t13 (2 : Int)) h0 (h1 ++ [orI IntKind.u64 (rdN h0 (Int.toNat t13)) (shlI IntKind.u64 (rdN h0 (Int.toNat (addI IntKind.i64 t13 (1 : Int)))) (32 : Int))])
      else none
    else none
  else none
else Option.bind (r3NormF h1) fun t => some t
mutual
def r3Mul_L6 : Nat → (List Int) → (List Int) → Int → (List Int) → Option (List Int)
  | 0, _, _, _, _ => none
  | k + 1, t0, t1, t6, h0 => r3Mul_b6 (r3Mul_L6 k) (r3Mul_L16 k) (r3Mul_L34 k) t0 t1 t6 h0
def r3Mul_L16 : Nat → (List Int) → (List Int) → Int → Int → Int → Int → (List Int) → Option (List Int)
  | 0, _, _, _, _, _, _, _ => none
  | k + 1, t0, t1, t6, t7, t8, t9, h0 => r3Mul_b16 (r3Mul_L6 k) (r3Mul_L16 k) (r3Mul_L34 k) t0 t1 t6 t7 t8 t9 h0
def r3Mul_L34 : Nat → Int → (List Int) → (List Int) → Option (List Int)
  | 0, _, _, _ => none
  | k + 1, t13, h0, h1 => r3Mul_b34 (r3Mul_L6 k) (r3Mul_L16 k) (r3Mul_L34 k) t13 h0 h1
end
noncomputable def r3Mul_E : Env (dens [.sl (.int .u64)]) := envOf S.tab [(117, mkF [.sl (.int .u64)] [.sl (.int .u64)] r3NormF)] Go.Proofs.Try.f119 [4] [.sl (.int .u64)]
theorem r3Mul_s0 (r : Rec (dens [.sl (.int .u64)])) (a : List Int) (b : List Int) : evT r3Mul_E r3Mul_h r 3000 false [.code (bodyOf Go.Proofs.Try.f119)] (T0 0 [.ints .u64 a, .ints .u64 b]) [] = r3Mul_b0 (fun t0 t1 t6 h0 => r (todoOf 6 (bodyOf Go.Proofs.Try.f119)) [((0 : Nat), AV.ints IntKind.u64 t0), ((1 : Nat), AV.ints IntKind.u64 t1), ((5 : Nat), AV.vec (nat_lit 0) (nat_lit 1)), ((6 : Nat), AV.int IntKind.i64 t6)] [Blk.I (nat_lit 36) IntKind.u64 h0]) (fun t0 t1 t6 t7 t8 t9 h0 => r (todoOf 16 (bodyOf Go.Proofs.Try.f119)) [((0 : Nat), AV.ints IntKind.u64 t0), ((1 : Nat), AV.ints IntKind.u64 t1), ((5 : Nat), AV.vec (nat_lit 0) (nat_lit 1)), ((6 : Nat), AV.int IntKind.i64 t6), ((7 : Nat), AV.int IntKind.u64 t7),
  ((8 : Nat), AV.int IntKind.u64 t8), ((9 : Nat), AV.int IntKind.i64 t9)] [Blk.I (nat_lit 36) IntKind.u64 h0]) (fun t13 h0 h1 => r (todoOf 34 (bodyOf Go.Proofs.Try.f119)) [((5 : Nat), AV.vec (nat_lit 0) (nat_lit 1)), ((12 : Nat), AV.vec (nat_lit 1) (nat_lit 1)), ((13 : Nat), AV.int IntKind.i64 t13)] [Blk.I (nat_lit 36) IntKind.u64 h0, Blk.I (nat_lit 36) IntKind.u64 h1]) a b := by kernel_rfl
theorem r3Mul_s6 (r : Rec (dens [.sl (.int .u64)])) (t0 : List Int) (t1 : List Int) (t6 : Int) (h0 : List Int) : evT r3Mul_E r3Mul_h r 3000 true (todoOf 6 (bodyOf Go.Proofs.Try.f119)) [((0 : Nat), AV.ints IntKind.u64 t0), ((1 : Nat), AV.ints IntKind.u64 t1), ((5 : Nat), AV.vec (nat_lit 0) (nat_lit 1)), ((6 : Nat), AV.int IntKind.i64 t6)] [Blk.I (nat_lit 36) IntKind.u64 h0] = r3Mul_b6 (fun t0 t1 t6 h0 => r (todoOf 6 (bodyOf Go.Proofs.Try.f119)) [((0 : Nat), AV.ints IntKind.u64 t0), ((1 : Nat), AV.ints IntKind.u64 t1), ((5 : Nat), AV.vec (nat_lit 0) (nat_lit 1)), ((6 : Nat), AV.int IntKind.i64 t6)] [Blk.I (nat_lit 36) IntKind.u64 h0]) (fun t0 t1 t6 t7 t8 t9 h0 => r (todoOf 16 (bodyOf Go.Proofs.Try.f119)) [((0 : Nat), AV.ints IntKind.u64 t0), ((1 : Nat), AV.ints IntKind.u64 t1), ((5 : Nat), AV.vec (nat_lit 0) (nat_lit 1)), ((6 : Nat), AV.int IntKind.i64 t6), ((7 : Nat), AV.int IntKind.u64 t7),
  ((8 : Nat), AV.int IntKind.u64 t8), ((9 : Nat), AV.int IntKind.i64 t9)] [Blk.I (nat_lit 36) IntKind.u64 h0]) (fun t13 h0 h1 => r (todoOf 34 (bodyOf Go.Proofs.Try.f119)) [((5 : Nat), AV.vec (nat_lit 0) (nat_lit 1)), ((12 : Nat), AV.vec (nat_lit 1) (nat_lit 1)), ((13 : Nat), AV.int IntKind.i64 t13)] [Blk.I (nat_lit 36) IntKind.u64 h0, Blk.I (nat_lit 36) IntKind.u64 h1]) t0 t1 t6 h0 := by kernel_rfl
theorem r3Mul_s16 (r : Rec (dens [.sl (.int .u64)])) (t0 : List Int) (t1 : List Int) (t6 : Int) (t7 : Int) (t8 : Int) (t9 : Int) (h0 : List Int) : evT r3Mul_E r3Mul_h r 3000 true (todoOf 16 (bodyOf Go.Proofs.Try.f119)) [((0 : Nat), AV.ints IntKind.u64 t0), ((1 : Nat), AV.ints IntKind.u64 t1), ((5 : Nat), AV.vec (nat_lit 0) (nat_lit 1)), ((6 : Nat), AV.int IntKind.i64 t6), ((7 : Nat), AV.int IntKind.u64 t7),
  ((8 : Nat), AV.int IntKind.u64 t8), ((9 : Nat), AV.int IntKind.i64 t9)] [Blk.I (nat_lit 36) IntKind.u64 h0] = r3Mul_b16 (fun t0 t1 t6 h0 => r (todoOf 6 (bodyOf Go.Proofs.Try.f119)) [((0 : Nat), AV.ints IntKind.u64 t0), ((1 : Nat), AV.ints IntKind.u64 t1), ((5 : Nat), AV.vec (nat_lit 0) (nat_lit 1)), ((6 : Nat), AV.int IntKind.i64 t6)] [Blk.I (nat_lit 36) IntKind.u64 h0]) (fun t0 t1 t6 t7 t8 t9 h0 => r (todoOf 16 (bodyOf Go.Proofs.Try.f119)) [((0 : Nat), AV.ints IntKind.u64 t0), ((1 : Nat), AV.ints IntKind.u64 t1), ((5 : Nat), AV.vec (nat_lit 0) (nat_lit 1)), ((6 : Nat), AV.int IntKind.i64 t6), ((7 : Nat), AV.int IntKind.u64 t7),
  ((8 : Nat), AV.int IntKind.u64 t8), ((9 : Nat), AV.int IntKind.i64 t9)] [Blk.I (nat_lit 36) IntKind.u64 h0]) (fun t13 h0 h1 => r (todoOf 34 (bodyOf Go.Proofs.Try.f119)) [((5 : Nat), AV.vec (nat_lit 0) (nat_lit 1)), ((12 : Nat), AV.vec (nat_lit 1) (nat_lit 1)), ((13 : Nat), AV.int IntKind.i64 t13)] [Blk.I (nat_lit 36) IntKind.u64 h0, Blk.I (nat_lit 36) IntKind.u64 h1]) t0 t1 t6 t7 t8 t9 h0 := by kernel_rfl
theorem r3Mul_s34 (r : Rec (dens [.sl (.int .u64)])) (t13 : Int) (h0 : List Int) (h1 : List Int) : evT r3Mul_E r3Mul_h r 3000 true (todoOf 34 (bodyOf Go.Proofs.Try.f119)) [((5 : Nat), AV.vec (nat_lit 0) (nat_lit 1)), ((12 : Nat), AV.vec (nat_lit 1) (nat_lit 1)), ((13 : Nat), AV.int IntKind.i64 t13)] [Blk.I (nat_lit 36) IntKind.u64 h0, Blk.I (nat_lit 36) IntKind.u64 h1] = r3Mul_b34 (fun t0 t1 t6 h0 => r (todoOf 6 (bodyOf Go.Proofs.Try.f119)) [((0 : Nat), AV.ints IntKind.u64 t0), ((1 : Nat), AV.ints IntKind.u64 t1), ((5 : Nat), AV.vec (nat_lit 0) (nat_lit 1)), ((6 : Nat), AV.int IntKind.i64 t6)] [Blk.I (nat_lit 36) IntKind.u64 h0]) (fun t0 t1 t6 t7 t8 t9 h0 => r (todoOf 16 (bodyOf Go.Proofs.Try.f119)) [((0 : Nat), AV.ints IntKind.u64 t0), ((1 : Nat), AV.ints IntKind.u64 t1), ((5 : Nat), AV.vec (nat_lit 0) (nat_lit 1)), ((6 : Nat), AV.int IntKind.i64 t6), ((7 : Nat), AV.int IntKind.u64 t7),
  ((8 : Nat), AV.int IntKind.u64 t8), ((9 : Nat), AV.int IntKind.i64 t9)] [Blk.I (nat_lit 36) IntKind.u64 h0]) (fun t13 h0 h1 => r (todoOf 34 (bodyOf Go.Proofs.Try.f119)) [((5 : Nat), AV.vec (nat_lit 0) (nat_lit 1)), ((12 : Nat), AV.vec (nat_lit 1) (nat_lit 1)), ((13 : Nat), AV.int IntKind.i64 t13)] [Blk.I (nat_lit 36) IntKind.u64 h0, Blk.I (nat_lit 36) IntKind.u64 h1]) t13 h0 h1 := by kernel_rfl
theorem r3Mul_k : ∀ k, (∀ (t0 : List Int) (t1 : List Int) (t6 : Int) (h0 : List Int), evK r3Mul_E r3Mul_h 3000 k (todoOf 6 (bodyOf Go.Proofs.Try.f119)) [((0 : Nat), AV.ints IntKind.u64 t0), ((1 : Nat), AV.ints IntKind.u64 t1), ((5 : Nat), AV.vec (nat_lit 0) (nat_lit 1)), ((6 : Nat), AV.int IntKind.i64 t6)] [Blk.I (nat_lit 36) IntKind.u64 h0] = r3Mul_L6 k t0 t1 t6 h0) ∧ (∀ (t0 : List Int) (t1 : List Int) (t6 : Int) (t7 : Int) (t8 : Int) (t9 : Int) (h0 : List Int), evK r3Mul_E r3Mul_h 3000 k (todoOf 16 (bodyOf Go.Proofs.Try.f119)) [((0 : Nat), AV.ints IntKind.u64 t0), ((1 : Nat), AV.ints IntKind.u64 t1), ((5 : Nat), AV.vec (nat_lit 0) (nat_lit 1)), ((6 : Nat), AV.int IntKind.i64 t6), ((7 : Nat), AV.int IntKind.u64 t7),
  ((8 : Nat), AV.int IntKind.u64 t8), ((9 : Nat), AV.int IntKind.i64 t9)] [Blk.I (nat_lit 36) IntKind.u64 h0] = r3Mul_L16 k t0 t1 t6 t7 t8 t9 h0) ∧ (∀ (t13 : Int) (h0 : List Int) (h1 : List Int), evK r3Mul_E r3Mul_h 3000 k (todoOf 34 (bodyOf Go.Proofs.Try.f119)) [((5 : Nat), AV.vec (nat_lit 0) (nat_lit 1)), ((12 : Nat), AV.vec (nat_lit 1) (nat_lit 1)), ((13 : Nat), AV.int IntKind.i64 t13)] [Blk.I (nat_lit 36) IntKind.u64 h0, Blk.I (nat_lit 36) IntKind.u64 h1] = r3Mul_L34 k t13 h0 h1)
  | 0 => by
    refine ⟨?_, ?_, ?_⟩ <;> intros <;> rfl
  | k + 1 => by
    have ih := r3Mul_k k
    refine ⟨?_, ?_, ?_⟩ <;> intros
    · exact ((r3Mul_s6 _ _ _ _ _).trans (by simp only [ih] <;> rfl))
    · exact ((r3Mul_s16 _ _ _ _ _ _ _ _).trans (by simp only [ih] <;> rfl))
    · exact ((r3Mul_s34 _ _ _ _).trans (by simp only [ih] <;> rfl))
theorem r3Mul_ev (k : Nat) (a : List Int) (b : List Int) : evM r3Mul_E r3Mul_h 3000 k [.code (bodyOf Go.Proofs.Try.f119)] (T0 0 [.ints .u64 a, .ints .u64 b]) [] = r3Mul_b0 (r3Mul_L6 k) (r3Mul_L16 k) (r3Mul_L34 k) a b := by
  refine (r3Mul_s0 _ a b).trans ?_
  simp only [r3Mul_k k] <;> rfl

/-! ### plumb/plumbref03.Pow -/
def rPow_h : Nat → Option Head := hintOf [(26, ⟨[(1, .same), (6, .same), (8, .fit (.sl (.int .u64))), (9, .same)], 0⟩)]
def rPow_b0 (l26 : Int → List Int → List Int → Int → Option (List Int × Int)) (a : List Int) (b : Int) : Option (List Int × Int) :=
  bif decide (b < (0 : Int)) then some ([], (31 : Int))
else
  Option.bind (r3NormF a) fun t =>
    bif decide (b = (0 : Int)) then some ([(1 : Int)], (0 : Int))
    else
      Option.bind (r3BitsF t) fun t_1 =>
        bif decide (t_1 ≤ (1 : Int)) then some (t, (0 : Int))
        else
          bif !decide (subI IntKind.i64 t_1 (1 : Int) = (0 : Int)) then
            bif decide (b > divI IntKind.i64 (262144 : Int) (subI IntKind.i64 t_1 (1 : Int))) then some ([], (21 : Int)) else l26 b t [(1 : Int)] (62 : Int)
          else none
def rPow_b26 (l26 : Int → List Int → List Int → Int → Option (List Int × Int)) (t1 : Int) (t6 : List Int) (t8 : List Int) (t9 : Int) : Option (List Int × Int) :=
  bif decide (t9 ≥ (0 : Int)) then
  Option.bind (r3MulF (t8, t8)) fun t =>
    bif decide ((0 : Int) ≤ t9) then
      bif decide (andI IntKind.i64 (shrI IntKind.i64 t1 t9) (1 : Int) = (1 : Int)) then
        Option.bind (r3MulF (t, t6)) fun t => bif decide ((↑(List.length t) : Int) > (4096 : Int)) then some ([], (21 : Int)) else l26 t1 t6 t (subI IntKind.i64 t9 (1 : Int))
      else bif decide ((↑(List.length t) : Int) > (4096 : Int)) then some ([], (21 : Int)) else l26 t1 t6 t (subI IntKind.i64 t9 (1 : Int))
    else none
else some (t8, (0 : Int))
mutual
def rPow_L26 : Nat → Int → (List Int) → (List Int) → Int → Option (List Int × Int)
  | 0, _, _, _, _ => none
  | k + 1, t1, t6, t8, t9 => rPow_b26 (rPow_L26 k) t1 t6 t8 t9
end
noncomputable def rPow_E : Env (dens [.sl (.int .u64), .int .i64]) := envOf S.tab [(117, mkF [.sl (.int .u64)] [.sl (.int .u64)] r3NormF), (118, mkF [.sl (.int .u64)] [.int .i64] r3BitsF), (119, mkF [.sl (.int .u64), .sl (.int .u64)] [.sl (.int .u64)] r3MulF)] Go.Proofs.Try.f47 [4, 5] [.sl (.int .u64), .int .i64]
theorem rPow_s0 (r : Rec (dens [.sl (.int .u64), .int .i64])) (a : List Int) (b : Int) : evT rPow_E rPow_h r 3000 false [.code (bodyOf Go.Proofs.Try.f47)] (T0 0 [.ints .u64 a, .int .i64 b]) [] = rPow_b0 (fun t1 t6 t8 t9 => r (todoOf 26 (bodyOf Go.Proofs.Try.f47)) [((1 : Nat), AV.int IntKind.i64 t1), ((6 : Nat), AV.ints IntKind.u64 t6), ((8 : Nat), AV.ints IntKind.u64 t8), ((9 : Nat), AV.int IntKind.i64 t9)] []) a b := by kernel_rfl
theorem rPow_s26 (r : Rec (dens [.sl (.int .u64), .int .i64])) (t1 : Int) (t6 : List Int) (t8 : List Int) (t9 : Int) : evT rPow_E rPow_h r 3000 true (todoOf 26 (bodyOf Go.Proofs.Try.f47)) [((1 : Nat), AV.int IntKind.i64 t1), ((6 : Nat), AV.ints IntKind.u64 t6), ((8 : Nat), AV.ints IntKind.u64 t8), ((9 : Nat), AV.int IntKind.i64 t9)] [] = rPow_b26 (fun t1 t6 t8 t9 => r (todoOf 26 (bodyOf Go.Proofs.Try.f47)) [((1 : Nat), AV.int IntKind.i64 t1), ((6 : Nat), AV.ints IntKind.u64 t6), ((8 : Nat), AV.ints IntKind.u64 t8), ((9 : Nat), AV.int IntKind.i64 t9)] []) t1 t6 t8 t9 := by kernel_rfl
theorem rPow_k : ∀ k, (∀ (t1 : Int) (t6 : List Int) (t8 : List Int) (t9 : Int), evK rPow_E rPow_h 3000 k (todoOf 26 (bodyOf Go.Proofs.Try.f47)) [((1 : Nat), AV.int IntKind.i64 t1), ((6 : Nat), AV.ints IntKind.u64 t6), ((8 : Nat), AV.ints IntKind.u64 t8), ((9 : Nat), AV.int IntKind.i64 t9)] [] = rPow_L26 k t1 t6 t8 t9)
  | 0 => by
    refine ?_ <;> intros <;> rfl
  | k + 1 => by
    have ih := rPow_k k
    refine ?_ <;> intros
    · exact ((rPow_s26 _ _ _ _ _).trans (by simp only [ih] <;> rfl))
theorem rPow_ev (k : Nat) (a : List Int) (b : Int) : evM rPow_E rPow_h 3000 k [.code (bodyOf Go.Proofs.Try.f47)] (T0 0 [.ints .u64 a, .int .i64 b]) [] = rPow_b0 (rPow_L26 k) a b := by
  refine (rPow_s0 _ a b).trans ?_
  simp only [rPow_k k] <;> rfl

/-! ### plumb/plumblaw03.QuotPows -/
def QuotPows_h : Nat → Option Head := hintOf []
def QuotPows_b0  (a : List Int) (b : Int) : Option (Bool) :=
  Option.bind (lentF a) fun t =>
  bif bif decide ((0 : Int) ≤ (↑(List.length a) : Int)) then decide ((↑(List.length a) : Int) ≤ (↑(List.length t) : Int)) else false then
    Option.bind (qPowF (List.take (Int.toNat (↑(List.length a) : Int)) t, b)) fun t_1 =>
      Option.bind (rPowF (a, b)) fun t_2 =>
        Option.bind (sameF (t_1.1, t_2.1)) fun t_3 =>
          bif t_3 then Option.bind (numF t_1.2) fun t_4 => bif decide (t_4 = t_2.2) then Option.bind (keptF (t, a)) fun t => some t else some false else some false
  else none
noncomputable def QuotPows_E : Env (dens [.bool]) := envOf S.tab [(45, mkF [.sl (.int .u64)] [.sl (.int .u64)] lentF), (46, mkF [.sl (.int .u64), .int .i64] [.sl (.int .u64), .int .i64] qPowF), (47, mkF [.sl (.int .u64), .int .i64] [.sl (.int .u64), .int .i64] rPowF), (48, mkF [.sl (.int .u64), .sl (.int .u64)] [.bool] sameF), (49, mkF [.int .i64] [.int .i64] numF), (50, mkF [.sl (.int .u64), .sl (.int .u64)] [.bool] keptF)] Go.Proofs.Try.f6 [4] [.bool]
theorem QuotPows_s0 (r : Rec (dens [.bool])) (a : List Int) (b : Int) : evT QuotPows_E QuotPows_h r 3000 false [.code (bodyOf Go.Proofs.Try.f6)] (T0 0 [.ints .u64 a, .int .i64 b]) [] = QuotPows_b0  a b := by kernel_rfl
theorem QuotPows_ev (k : Nat) (a : List Int) (b : Int) : evM QuotPows_E QuotPows_h 3000 k [.code (bodyOf Go.Proofs.Try.f6)] (T0 0 [.ints .u64 a, .int .i64 b]) [] = QuotPows_b0  a b := by
  exact QuotPows_s0 _ a b

end
end Go.RX.S
