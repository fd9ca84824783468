/- What functions compute, printed. -/
import Derived.Test.YtandibmpaamfbaaTa
set_option linter.unusedVariables false
set_option linter.unusedSimpArgs false
namespace Go.RX.S
open Go Go.RX
noncomputable section
/-! ### plumb/plumblaw02.cut -/
def cut_h : Nat → Option Head := hintOf [(6, ⟨[(0, .same), (3, .vec 36), (4, .same)], 1⟩)]
def cut_b0 (l6 : List Int → Int → List Int → Option (List Int)) (a : List Int) : Option (List Int) :=
  l6 a (0 : Int) []
def cut_b6 (l6 : List Int → Int → List Int → Option (List Int)) (t0 : List Int) (t4 : Int) (h0 : List Int) : Option (List Int) :=
  bif decide (t4 < (↑(List.length t0) : Int)) then
  bif decide (t4 < (60 : Int)) then
    bif inRange t4 (List.length t0) then
      bif decide ((↑(List.length (h0 ++ [rdI t0 t4])) : Int) * (8 : Int) ≤ (140737488355328 : Int)) then l6 t0 (addI IntKind.i64 t4 (1 : Int)) (h0 ++ [rdI t0 t4]) else none
    else none
  else some h0
else some h0
mutual
def cut_L6 : Nat → (List Int) → Int → (List Int) → Option (List Int)
  | 0, _, _, _ => none
  | k + 1, t0, t4, h0 => cut_b6 (cut_L6 k) t0 t4 h0
end
noncomputable def cut_E : Env (dens [.sl (.int .u64)]) := envOf S.tab [] Go.Proofs.Try.f27 [2] [.sl (.int .u64)]
theorem cut_s0 (r : Rec (dens [.sl (.int .u64)])) (a : List Int) : evT cut_E cut_h r 3000 false [.code (bodyOf Go.Proofs.Try.f27)] (T0 0 [.ints .u64 a]) [] = cut_b0 (fun t0 t4 h0 => r (todoOf 6 (bodyOf Go.Proofs.Try.f27)) [((0 : Nat), AV.ints IntKind.u64 t0), ((3 : Nat), AV.vec (nat_lit 0) (nat_lit 1)), ((4 : Nat), AV.int IntKind.i64 t4)] [Blk.I (nat_lit 36) IntKind.u64 h0]) a := by kernel_rfl
theorem cut_s6 (r : Rec (dens [.sl (.int .u64)])) (t0 : List Int) (t4 : Int) (h0 : List Int) : evT cut_E cut_h r 3000 true (todoOf 6 (bodyOf Go.Proofs.Try.f27)) [((0 : Nat), AV.ints IntKind.u64 t0), ((3 : Nat), AV.vec (nat_lit 0) (nat_lit 1)), ((4 : Nat), AV.int IntKind.i64 t4)] [Blk.I (nat_lit 36) IntKind.u64 h0] = cut_b6 (fun t0 t4 h0 => r (todoOf 6 (bodyOf Go.Proofs.Try.f27)) [((0 : Nat), AV.ints IntKind.u64 t0), ((3 : Nat), AV.vec (nat_lit 0) (nat_lit 1)), ((4 : Nat), AV.int IntKind.i64 t4)] [Blk.I (nat_lit 36) IntKind.u64 h0]) t0 t4 h0 := by kernel_rfl
theorem cut_k : ∀ k, (∀ (t0 : List Int) (t4 : Int) (h0 : List Int), evK cut_E cut_h 3000 k (todoOf 6 (bodyOf Go.Proofs.Try.f27)) [((0 : Nat), AV.ints IntKind.u64 t0), ((3 : Nat), AV.vec (nat_lit 0) (nat_lit 1)), ((4 : Nat), AV.int IntKind.i64 t4)] [Blk.I (nat_lit 36) IntKind.u64 h0] = cut_L6 k t0 t4 h0)
  | 0 => by
    refine ?_ <;> intros <;> rfl
  | k + 1 => by
    have ih := cut_k k
    refine ?_ <;> intros
    · exact ((cut_s6 _ _ _ _).trans (by simp only [ih] <;> rfl))
theorem cut_ev (k : Nat) (a : List Int) : evM cut_E cut_h 3000 k [.code (bodyOf Go.Proofs.Try.f27)] (T0 0 [.ints .u64 a]) [] = cut_b0 (cut_L6 k) a := by
  refine (cut_s0 _ a).trans ?_
  simp only [cut_k k] <;> rfl

/-! ### plumb/plumblaw02.same -/
def same_h : Nat → Option Head := hintOf [(8, ⟨[(0, .same), (1, .same), (5, .same)], 0⟩)]
def same_b0 (l8 : List Int → List Int → Int → Option Bool) (a : List Int) (b : List Int) : Option (Bool) :=
  bif !decide ((↑(List.length a) : Int) = (↑(List.length b) : Int)) then some false else l8 a b (0 : Int)
def same_b8 (l8 : List Int → List Int → Int → Option Bool) (t0 : List Int) (t1 : List Int) (t5 : Int) : Option (Bool) :=
  bif decide (t5 < (↑(List.length t0) : Int)) then
  bif inRange t5 (List.length t0) then bif inRange t5 (List.length t1) then bif !decide (rdI t0 t5 = rdI t1 t5) then some false else l8 t0 t1 (addI IntKind.i64 t5 (1 : Int)) else none else none
else some true
mutual
def same_L8 : Nat → (List Int) → (List Int) → Int → Option (Bool)
  | 0, _, _, _ => none
  | k + 1, t0, t1, t5 => same_b8 (same_L8 k) t0 t1 t5
end
noncomputable def same_E : Env (dens [.bool]) := envOf S.tab [] Go.Proofs.Try.f31 [4] [.bool]
theorem same_s0 (r : Rec (dens [.bool])) (a : List Int) (b : List Int) : evT same_E same_h r 3000 false [.code (bodyOf Go.Proofs.Try.f31)] (T0 0 [.ints .u64 a, .ints .u64 b]) [] = same_b0 (fun t0 t1 t5 => r (todoOf 8 (bodyOf Go.Proofs.Try.f31)) [((0 : Nat), AV.ints IntKind.u64 t0), ((1 : Nat), AV.ints IntKind.u64 t1), ((5 : Nat), AV.int IntKind.i64 t5)] []) a b := by kernel_rfl
theorem same_s8 (r : Rec (dens [.bool])) (t0 : List Int) (t1 : List Int) (t5 : Int) : evT same_E same_h r 3000 true (todoOf 8 (bodyOf Go.Proofs.Try.f31)) [((0 : Nat), AV.ints IntKind.u64 t0), ((1 : Nat), AV.ints IntKind.u64 t1), ((5 : Nat), AV.int IntKind.i64 t5)] [] = same_b8 (fun t0 t1 t5 => r (todoOf 8 (bodyOf Go.Proofs.Try.f31)) [((0 : Nat), AV.ints IntKind.u64 t0), ((1 : Nat), AV.ints IntKind.u64 t1), ((5 : Nat), AV.int IntKind.i64 t5)] []) t0 t1 t5 := by kernel_rfl
theorem same_k : ∀ k, (∀ (t0 : List Int) (t1 : List Int) (t5 : Int), evK same_E same_h 3000 k (todoOf 8 (bodyOf Go.Proofs.Try.f31)) [((0 : Nat), AV.ints IntKind.u64 t0), ((1 : Nat), AV.ints IntKind.u64 t1), ((5 : Nat), AV.int IntKind.i64 t5)] [] = same_L8 k t0 t1 t5)
  | 0 => by
    refine ?_ <;> intros <;> rfl
  | k + 1 => by
    have ih := same_k k
    refine ?_ <;> intros
    · exact ((same_s8 _ _ _ _).trans (by simp only [ih] <;> rfl))
theorem same_ev (k : Nat) (a : List Int) (b : List Int) : evM same_E same_h 3000 k [.code (bodyOf Go.Proofs.Try.f31)] (T0 0 [.ints .u64 a, .ints .u64 b]) [] = same_b0 (same_L8 k) a b := by
  refine (same_s0 _ a b).trans ?_
  simp only [same_k k] <;> rfl

/-! ### plumb/plumblaw02.add -/
def add_h : Nat → Option Head := hintOf []
def add_b0  (a : List Int) (b : List Int) : Option (List Int × Bool) :=
  Option.bind (nAddF (a, b)) fun t => some (t.1, decide (t.2 = (0 : Int)))
noncomputable def add_E : Env (dens [.sl (.int .u64), .bool]) := envOf S.tab [(40, mkF [.sl (.int .u64), .sl (.int .u64)] [.sl (.int .u64), .int .i64] nAddF)] Go.Proofs.Try.f28 [4, 5] [.sl (.int .u64), .bool]
theorem add_s0 (r : Rec (dens [.sl (.int .u64), .bool])) (a : List Int) (b : List Int) : evT add_E add_h r 3000 false [.code (bodyOf Go.Proofs.Try.f28)] (T0 0 [.ints .u64 a, .ints .u64 b]) [] = add_b0  a b := by kernel_rfl
theorem add_ev (k : Nat) (a : List Int) (b : List Int) : evM add_E add_h 3000 k [.code (bodyOf Go.Proofs.Try.f28)] (T0 0 [.ints .u64 a, .ints .u64 b]) [] = add_b0  a b := by
  exact add_s0 _ a b

/-! ### plumb/plumblaw02.mul -/
def mul_h : Nat → Option Head := hintOf []
def mul_b0  (a : List Int) (b : List Int) : Option (List Int × Bool) :=
  Option.bind (nMulF (a, b)) fun t => some (t.1, decide (t.2 = (0 : Int)))
noncomputable def mul_E : Env (dens [.sl (.int .u64), .bool]) := envOf S.tab [(38, mkF [.sl (.int .u64), .sl (.int .u64)] [.sl (.int .u64), .int .i64] nMulF)] Go.Proofs.Try.f36 [4, 5] [.sl (.int .u64), .bool]
theorem mul_s0 (r : Rec (dens [.sl (.int .u64), .bool])) (a : List Int) (b : List Int) : evT mul_E mul_h r 3000 false [.code (bodyOf Go.Proofs.Try.f36)] (T0 0 [.ints .u64 a, .ints .u64 b]) [] = mul_b0  a b := by kernel_rfl
theorem mul_ev (k : Nat) (a : List Int) (b : List Int) : evM mul_E mul_h 3000 k [.code (bodyOf Go.Proofs.Try.f36)] (T0 0 [.ints .u64 a, .ints .u64 b]) [] = mul_b0  a b := by
  exact mul_s0 _ a b

/-! ### plumb/plumblaw02.normal -/
def normal_h : Nat → Option Head := hintOf []
def normal_b0  (a : List Int) : Option (Bool) :=
  bif decide ((↑(List.length a) : Int) = (0 : Int)) then some true
else bif inRange (subI IntKind.i64 (↑(List.length a) : Int) (1 : Int)) (List.length a) then some !decide (rdI a (subI IntKind.i64 (↑(List.length a) : Int) (1 : Int)) = (0 : Int)) else none
noncomputable def normal_E : Env (dens [.bool]) := envOf S.tab [] Go.Proofs.Try.f35 [2] [.bool]
theorem normal_s0 (r : Rec (dens [.bool])) (a : List Int) : evT normal_E normal_h r 3000 false [.code (bodyOf Go.Proofs.Try.f35)] (T0 0 [.ints .u64 a]) [] = normal_b0  a := by kernel_rfl
theorem normal_ev (k : Nat) (a : List Int) : evM normal_E normal_h 3000 k [.code (bodyOf Go.Proofs.Try.f35)] (T0 0 [.ints .u64 a]) [] = normal_b0  a := by
  exact normal_s0 _ a

/-! ### plumb/plumblaw02.alive -/
def alive_h : Nat → Option Head := hintOf []
def alive_b0   : Option (Bool) :=
  Option.bind (nAddF ([(18446744073709551615 : Int)], [(1 : Int)])) fun t => bif decide (t.2 = (0 : Int)) then Option.bind (sameF (t.1, [(0 : Int), (1 : Int)])) fun t => some t else some false
noncomputable def alive_E : Env (dens [.bool]) := envOf S.tab [(40, mkF [.sl (.int .u64), .sl (.int .u64)] [.sl (.int .u64), .int .i64] nAddF), (31, mkF [.sl (.int .u64), .sl (.int .u64)] [.bool] sameF)] Go.Proofs.Try.f29 [0] [.bool]
theorem alive_s0 (r : Rec (dens [.bool]))  : evT alive_E alive_h r 3000 false [.code (bodyOf Go.Proofs.Try.f29)] (T0 0 []) [] = alive_b0   := by kernel_rfl
theorem alive_ev (k : Nat)  : evM alive_E alive_h 3000 k [.code (bodyOf Go.Proofs.Try.f29)] (T0 0 []) [] = alive_b0   := by
  exact alive_s0 _ 

/-! ### plumb/plumblaw02.into -/
def into_h : Nat → Option Head := hintOf []
def into_b0  (a : Int) (b : Int) : Option (Int) :=
  bif !decide (b = (0 : Int)) then bif decide (remI a b < (0 : Int)) then some (addI IntKind.i64 (remI a b) b) else some (remI a b) else none
noncomputable def into_E : Env (dens [.int .i64]) := envOf S.tab [] Go.Proofs.Try.f68 [4] [.int .i64]
theorem into_s0 (r : Rec (dens [.int .i64])) (a : Int) (b : Int) : evT into_E into_h r 3000 false [.code (bodyOf Go.Proofs.Try.f68)] (T0 0 [.int .i64 a, .int .i64 b]) [] = into_b0  a b := by kernel_rfl
theorem into_ev (k : Nat) (a : Int) (b : Int) : evM into_E into_h 3000 k [.code (bodyOf Go.Proofs.Try.f68)] (T0 0 [.int .i64 a, .int .i64 b]) [] = into_b0  a b := by
  exact into_s0 _ a b

/-! ### plumb/plumblaw02.told -/
def told_h : Nat → Option Head := hintOf []
def told_b0  (a : List Int) (b : Int) (c : List Int) (d : Int) : Option (Bool) :=
  bif decide (b = d) then Option.bind (sameF (a, c)) fun t => some t else some false
noncomputable def told_E : Env (dens [.bool]) := envOf S.tab [(31, mkF [.sl (.int .u64), .sl (.int .u64)] [.bool] sameF)] Go.Proofs.Try.f54 [8] [.bool]
theorem told_s0 (r : Rec (dens [.bool])) (a : List Int) (b : Int) (c : List Int) (d : Int) : evT told_E told_h r 3000 false [.code (bodyOf Go.Proofs.Try.f54)] (T0 0 [.ints .u64 a, .int .i64 b, .ints .u64 c, .int .i64 d]) [] = told_b0  a b c d := by kernel_rfl
theorem told_ev (k : Nat) (a : List Int) (b : Int) (c : List Int) (d : Int) : evM told_E told_h 3000 k [.code (bodyOf Go.Proofs.Try.f54)] (T0 0 [.ints .u64 a, .int .i64 b, .ints .u64 c, .int .i64 d]) [] = told_b0  a b c d := by
  exact told_s0 _ a b c d

/-! ### plumb/nat.Norm -/
def nNormZ_h : Nat → Option Head := hintOf []
def nNormZ_b0  (a : List Int) : Option (List Int) :=
  Option.bind (nSizeF a) fun t =>
  bif bif decide ((0 : Int) ≤ t) then decide (t * (8 : Int) ≤ (281474976710656 : Int)) else false then
    some (splice (List.replicate (Int.toNat t) (0 : Int)) (nat_lit 0) (List.take (List.length (List.replicate (Int.toNat t) (0 : Int))) a))
  else none
noncomputable def nNormZ_E : Env (dens [.sl (.int .u64)]) := envOf S.tab [(111, mkF [.sl (.int .u64)] [.int .i64] nSizeF)] Go.Proofs.Try.f32 [2] [.sl (.int .u64)]
theorem nNormZ_s0 (r : Rec (dens [.sl (.int .u64)])) (a : List Int) : evT nNormZ_E nNormZ_h r 3000 false [.code (bodyOf Go.Proofs.Try.f32)] (T0 0 [.ints .u64 a]) [] = nNormZ_b0  a := by kernel_rfl
theorem nNormZ_ev (k : Nat) (a : List Int) : evM nNormZ_E nNormZ_h 3000 k [.code (bodyOf Go.Proofs.Try.f32)] (T0 0 [.ints .u64 a]) [] = nNormZ_b0  a := by
  exact nNormZ_s0 _ a

/-! ### plumb/plumblaw02.NatBack -/
def NatBack_h : Nat → Option Head := hintOf [(38, ⟨[(2, .same), (17, .vec 22), (18, .fit (.sl (.int .u64))), (19, .same)], 1⟩)]
def NatBack_b0 (l38 : List AV → List Int → Int → List AV → Option Bool) (a : List Int) (b : List Int) (c : List AV) : Option (Bool) :=
  Option.bind (cutF a) fun t =>
  Option.bind (cutF b) fun t_1 =>
    Option.bind (addF (t, t_1)) fun t_2 =>
      bif !t_2.2 then some false
      else
        Option.bind (aliveF PUnit.unit) fun t_3 =>
          bif !t_3 then some false
          else
            Option.bind (nSubF (t_2.1, t_1)) fun t_4 =>
              Option.bind (nSubF (t_2.1, t_2.1)) fun t_5 =>
                bif !decide (t_4.2 = (0 : Int)) then some false
                else
                  bif !decide (t_5.2 = (0 : Int)) then some false
                  else
                    Option.bind (nNormF t) fun t_6 =>
                      Option.bind (sameF (t_4.1, t_6)) fun t_7 =>
                        bif !t_7 then some false
                        else
                          bif !decide ((↑(List.length t_5.1) : Int) = (0 : Int)) then some false
                          else
                            Option.bind (nSubF (t, t_1)) fun t_8 =>
                              Option.bind (nCmpF (t, t_1)) fun t_9 =>
                                bif decide (t_9 < (0 : Int)) then
                                  bif !decide (t_8.2 = (20 : Int)) then some false else bif !decide ((↑(List.length t_8.1) : Int) = (0 : Int)) then some false else l38 c [] (0 : Int) []
                                else
                                  Option.bind (addF (t_8.1, t_1)) fun t_10 =>
                                    bif !decide (t_8.2 = (0 : Int)) then some false
                                    else bif !t_10.2 then some false else Option.bind (nNormF t) fun t => Option.bind (sameF (t_10.1, t)) fun t => bif !t then some false else l38 c [] (0 : Int) []
def NatBack_b38 (l38 : List AV → List Int → Int → List AV → Option Bool) (t2 : List AV) (t18 : List Int) (t19 : Int) (h0 : List AV) : Option (Bool) :=
  bif decide (t19 < (↑(List.length t2) : Int)) then
  bif decide (t19 < (12 : Int)) then
    bif inRange t19 (List.length t2) then
      Option.bind (cutF (AV.asInts (aget t2 (Int.toNat t19)))) fun t =>
        bif decide ((↑(List.length (h0 ++ [AV.ints IntKind.u64 t])) : Int) * (24 : Int) ≤ (140737488355328 : Int)) then
          Option.bind (addF (t18, t)) fun t_1 => bif !t_1.2 then some false else l38 t2 t_1.1 (addI IntKind.i64 t19 (1 : Int)) (h0 ++ [AV.ints IntKind.u64 t])
        else none
    else none
  else Option.bind (nSumF h0) fun t => bif decide (t.2 = (0 : Int)) then Option.bind (sameF (t.1, t18)) fun t => some t else some false
else Option.bind (nSumF h0) fun t => bif decide (t.2 = (0 : Int)) then Option.bind (sameF (t.1, t18)) fun t => some t else some false
mutual
def NatBack_L38 : Nat → (List AV) → (List Int) → Int → (List AV) → Option (Bool)
  | 0, _, _, _, _ => none
  | k + 1, t2, t18, t19, h0 => NatBack_b38 (NatBack_L38 k) t2 t18 t19 h0
end
noncomputable def NatBack_E : Env (dens [.bool]) := envOf S.tab [(27, mkF [.sl (.int .u64)] [.sl (.int .u64)] cutF), (28, mkF [.sl (.int .u64), .sl (.int .u64)] [.sl (.int .u64), .bool] addF), (29, mkF [] [.bool] aliveF), (30, mkF [.sl (.int .u64), .sl (.int .u64)] [.sl (.int .u64), .int .i64] nSubF), (31, mkF [.sl (.int .u64), .sl (.int .u64)] [.bool] sameF), (32, mkF [.sl (.int .u64)] [.sl (.int .u64)] nNormF), (33, mkF [.sl (.int .u64), .sl (.int .u64)] [.int .i64] nCmpF), (34, mkF [.sl (.sl (.int .u64))] [.sl (.int .u64), .int .i64] nSumF)] Go.Proofs.Try.f3 [6] [.bool]
theorem NatBack_s0 (r : Rec (dens [.bool])) (a : List Int) (b : List Int) (c : List AV) : evT NatBack_E NatBack_h r 3000 false [.code (bodyOf Go.Proofs.Try.f3)] (T0 0 [.ints .u64 a, .ints .u64 b, .list (.sl (.int .u64)) c]) [] = NatBack_b0 (fun t2 t18 t19 h0 => r (todoOf 38 (bodyOf Go.Proofs.Try.f3)) [((2 : Nat), AV.list (ETy.sl (ETy.int IntKind.u64)) t2), ((17 : Nat), AV.vec (nat_lit 0) (nat_lit 1)), ((18 : Nat), AV.ints IntKind.u64 t18), ((19 : Nat), AV.int IntKind.i64 t19)] [Blk.A (nat_lit 22) (ETy.sl (ETy.int IntKind.u64)) h0]) a b c := by kernel_rfl
theorem NatBack_s38 (r : Rec (dens [.bool])) (t2 : List AV) (t18 : List Int) (t19 : Int) (h0 : List AV) : evT NatBack_E NatBack_h r 3000 true (todoOf 38 (bodyOf Go.Proofs.Try.f3)) [((2 : Nat), AV.list (ETy.sl (ETy.int IntKind.u64)) t2), ((17 : Nat), AV.vec (nat_lit 0) (nat_lit 1)), ((18 : Nat), AV.ints IntKind.u64 t18), ((19 : Nat), AV.int IntKind.i64 t19)] [Blk.A (nat_lit 22) (ETy.sl (ETy.int IntKind.u64)) h0] = NatBack_b38 (fun t2 t18 t19 h0 => r (todoOf 38 (bodyOf Go.Proofs.Try.f3)) [((2 : Nat), AV.list (ETy.sl (ETy.int IntKind.u64)) t2), ((17 : Nat), AV.vec (nat_lit 0) (nat_lit 1)), ((18 : Nat), AV.ints IntKind.u64 t18), ((19 : Nat), AV.int IntKind.i64 t19)] [Blk.A (nat_lit 22) (ETy.sl (ETy.int IntKind.u64)) h0]) t2 t18 t19 h0 := by kernel_rfl
theorem NatBack_k : ∀ k, (∀ (t2 : List AV) (t18 : List Int) (t19 : Int) (h0 : List AV), evK NatBack_E NatBack_h 3000 k (todoOf 38 (bodyOf Go.Proofs.Try.f3)) [((2 : Nat), AV.list (ETy.sl (ETy.int IntKind.u64)) t2), ((17 : Nat), AV.vec (nat_lit 0) (nat_lit 1)), ((18 : Nat), AV.ints IntKind.u64 t18), ((19 : Nat), AV.int IntKind.i64 t19)] [Blk.A (nat_lit 22) (ETy.sl (ETy.int IntKind.u64)) h0] = NatBack_L38 k t2 t18 t19 h0)
  | 0 => by
    refine ?_ <;> intros <;> rfl
  | k + 1 => by
    have ih := NatBack_k k
    refine ?_ <;> intros
    · exact ((NatBack_s38 _ _ _ _ _).trans (by simp only [ih] <;> rfl))
theorem NatBack_ev (k : Nat) (a : List Int) (b : List Int) (c : List AV) : evM NatBack_E NatBack_h 3000 k [.code (bodyOf Go.Proofs.Try.f3)] (T0 0 [.ints .u64 a, .ints .u64 b, .list (.sl (.int .u64)) c]) [] = NatBack_b0 (NatBack_L38 k) a b c := by
  refine (NatBack_s0 _ a b c).trans ?_
  simp only [NatBack_k k] <;> rfl

/-! ### plumb/plumblaw02.NatRing -/
def NatRing_h : Nat → Option Head := hintOf []
def NatRing_b0  (a : List Int) (b : List Int) (c : List Int) : Option (Bool) :=
  Option.bind (cutF a) fun t =>
  Option.bind (cutF b) fun t_1 =>
    Option.bind (cutF c) fun t_2 =>
      Option.bind (aliveF PUnit.unit) fun t_3 =>
        bif !t_3 then some false
        else
          Option.bind (addF (t, t_1)) fun t_4 =>
            Option.bind (addF (t_1, t)) fun t_5 =>
              Option.bind (addF (t_4.1, t_2)) fun t_6 =>
                Option.bind (addF (t_1, t_2)) fun t_7 =>
                  Option.bind (addF (t, t_7.1)) fun t_8 =>
                    bif !t_4.2 then some false
                    else
                      bif !t_5.2 then some false
                      else
                        bif !t_6.2 then some false
                        else
                          bif !t_7.2 then some false
                          else
                            bif !t_8.2 then some false
                            else
                              Option.bind (sameF (t_4.1, t_5.1)) fun t_9 =>
                                bif !t_9 then some false
                                else
                                  Option.bind (sameF (t_6.1, t_8.1)) fun t_10 =>
                                    bif !t_10 then some false
                                    else
                                      Option.bind (normalF t_6.1) fun t_11 =>
                                        bif !t_11 then some false
                                        else
                                          Option.bind (mulF (t, t_1)) fun t_12 =>
                                            Option.bind (mulF (t_1, t)) fun t_13 =>
                                              Option.bind (mulF (t_12.1, t_2)) fun t_14 =>
                                                Option.bind (mulF (t_1, t_2)) fun t_15 =>
                                                  Option.bind (mulF (t, t_15.1)) fun t_16 =>
                                                    bif !t_12.2 then some false
                                                    else
                                                      bif !t_13.2 then some false
                                                      else
                                                        bif !t_14.2 then some false
                                                        else
                                                          bif !t_15.2 then some false
                                                          else
                                                            bif !t_16.2 then some false
                                                            else
                                                              Option.bind (sameF (t_12.1, t_13.1)) fun t_17 =>
                                                                bif !t_17 then some false
                                                                else
                                                                  Option.bind (sameF (t_14.1, t_16.1)) fun t_18 =>
                                                                    bif !t_18 then some false
                                                                    else
                                                                      Option.bind (normalF t_14.1) fun t_19 =>
                                                                        bif !t_19 then some false
                                                                        else
                                                                          Option.bind (mulF (t, t_7.1)) fun t_20 =>
                                                                            Option.bind (mulF (t, t_2)) fun t_21 =>
                                                                              Option.bind (addF (t_12.1, t_21.1)) fun t_22 =>
                                                                                Option.bind (mulF (t, [(1 : Int), (0 : Int)])) fun t_23 =>
                                                                                  Option.bind (addF (t, [])) fun t_24 =>
                                                                                    bif !t_20.2 then some false
                                                                                    else
                                                                                      bif !t_21.2 then some false
                                                                                      else
                                                                                        bif !t_22.2 then some false
                                                                                        else
                                                                                          bif !t_23.2 then some false
                                                                                          else
                                                                                            bif !t_24.2 then some false
                                                                                            else
                                                                                              Option.bind (sameF (t_20.1, t_22.1)) fun t_25 =>
                                                                                                bif !t_25 then some false
                                                                                                else
                                                                                                  Option.bind (nNormF t) fun t_26 =>
                                                                                                    Option.bind (sameF (t_23.1, t_26)) fun t_27 =>
                                                                                                      bif !t_27 then some false
                                                                                                      else
                                                                                                        Option.bind (sameF (t_24.1, t_23.1)) fun t_28 =>
                                                                                                          bif !t_28 then some false
                                                                                                          else
                                                                                                            bif decide ((↑(List.length t) : Int) = (0 : Int)) then some true
                                                                                                            else
                                                                                                              bif decide ((↑(List.length t_1) : Int) = (0 : Int)) then some true
                                                                                                              else
                                                                                                                bif inRange (0 : Int) (List.length t) then
                                                                                                                  bif inRange (0 : Int) (List.length t_1) then
                                                                                                                    Option.bind (wMulF (rdI t (0 : Int), rdI t_1 (0 : Int))) fun t_29 =>
                                                                                                                      bif decide ((1 : Int) ≤ (↑(List.length t) : Int)) then
                                                                                                                        bif decide ((1 : Int) ≤ (↑(List.length t_1) : Int)) then
                                                                                                                          Option.bind (nMulF (List.take (nat_lit 1) t, List.take (nat_lit 1) t_1))
                                                                                                                            fun t_30 =>
                                                                                                                            bif inRange (0 : Int) (List.length t) then
                                                                                                                              bif inRange (0 : Int) (List.length t_1) then
                                                                                                                                Option.bind (wAddF (rdI t (0 : Int), rdI t_1 (0 : Int), (0 : Int)))
                                                                                                                                  fun t_31 =>
                                                                                                                                  bif decide ((1 : Int) ≤ (↑(List.length t) : Int)) then
                                                                                                                                    bif decide ((1 : Int) ≤ (↑(List.length t_1) : Int)) then
                                                                                                                                      Option.bind
                                                                                                                                        (nAddF (List.take (nat_lit 1) t, List.take (nat_lit 1) t_1))
                                                                                                                                        fun t =>
                                                                                                                                        bif decide (t_30.2 = (0 : Int)) then
                                                                                                                                          bif decide (t.2 = (0 : Int)) then
                                                                                                                                            Option.bind (nNormF [t_29.2, t_29.1]) fun t_32 =>
                                                                                                                                              Option.bind (sameF (t_30.1, t_32)) fun t_33 =>
                                                                                                                                                bif t_33 then
                                                                                                                                                  Option.bind (nNormF [t_31.1, t_31.2]) fun t_34 =>
                                                                                                                                                    Option.bind (sameF (t.1, t_34)) fun t => some t
                                                                                                                                                else some false
                                                                                                                                          else some false
                                                                                                                                        else some false
                                                                                                                                    else none
                                                                                                                                  else none
                                                                                                                              else none
                                                                                                                            else none
                                                                                                                        else none
                                                                                                                      else none
                                                                                                                  else none
                                                                                                                else none
noncomputable def NatRing_E : Env (dens [.bool]) := envOf S.tab [(27, mkF [.sl (.int .u64)] [.sl (.int .u64)] cutF), (29, mkF [] [.bool] aliveF), (28, mkF [.sl (.int .u64), .sl (.int .u64)] [.sl (.int .u64), .bool] addF), (31, mkF [.sl (.int .u64), .sl (.int .u64)] [.bool] sameF), (35, mkF [.sl (.int .u64)] [.bool] normalF), (36, mkF [.sl (.int .u64), .sl (.int .u64)] [.sl (.int .u64), .bool] mulF), (32, mkF [.sl (.int .u64)] [.sl (.int .u64)] nNormF), (37, mkF [.int .u64, .int .u64] [.int .u64, .int .u64] wMulF), (38, mkF [.sl (.int .u64), .sl (.int .u64)] [.sl (.int .u64), .int .i64] nMulF), (39, mkF [.int .u64, .int .u64, .int .u64] [.int .u64, .int .u64] wAddF), (40, mkF [.sl (.int .u64), .sl (.int .u64)] [.sl (.int .u64), .int .i64] nAddF)] Go.Proofs.Try.f4 [6] [.bool]
theorem NatRing_s0 (r : Rec (dens [.bool])) (a : List Int) (b : List Int) (c : List Int) : evT NatRing_E NatRing_h r 3000 false [.code (bodyOf Go.Proofs.Try.f4)] (T0 0 [.ints .u64 a, .ints .u64 b, .ints .u64 c]) [] = NatRing_b0  a b c := by kernel_rfl
theorem NatRing_ev (k : Nat) (a : List Int) (b : List Int) (c : List Int) : evM NatRing_E NatRing_h 3000 k [.code (bodyOf Go.Proofs.Try.f4)] (T0 0 [.ints .u64 a, .ints .u64 b, .ints .u64 c]) [] = NatRing_b0  a b c := by
  exact NatRing_s0 _ a b c

/-! ### plumb/plumblaw02.NatOrder -/
def NatOrder_h : Nat → Option Head := hintOf []
def NatOrder_b0  (a : List Int) (b : List Int) (c : List Int) : Option (Bool) :=
  Option.bind (cutF a) fun t =>
  Option.bind (cutF b) fun t_1 =>
    Option.bind (cutF c) fun t_2 =>
      Option.bind (aliveF PUnit.unit) fun t_3 =>
        bif !t_3 then some false
        else
          Option.bind (nCmpF ([], [(0 : Int), (0 : Int)])) fun t_4 =>
            bif !decide (t_4 = (0 : Int)) then some false
            else
              Option.bind (nCmpF ([(1 : Int)], [])) fun t_5 =>
                bif !decide (t_5 = (1 : Int)) then some false
                else
                  Option.bind (nCmpF (t, t_1)) fun t_6 =>
                    bif decide (t_6 < (-1 : Int)) then some false
                    else
                      bif decide (t_6 > (1 : Int)) then some false
                      else
                        Option.bind (nCmpF (t_1, t)) fun t_7 =>
                          bif !decide (t_7 = subI IntKind.i64 (0 : Int) t_6) then some false
                          else
                            Option.bind (nNormF t) fun t_8 =>
                              Option.bind (nNormF t_1) fun t_9 =>
                                Option.bind (sameF (t_8, t_9)) fun t_10 =>
                                  bif !decide (decide (t_6 = (0 : Int)) = t_10) then some false
                                  else
                                    Option.bind (nCmpF (t, t)) fun t_11 =>
                                      bif !decide (t_11 = (0 : Int)) then some false
                                      else
                                        Option.bind (addF (t, t_2)) fun t_12 =>
                                          Option.bind (addF (t_1, t_2)) fun t_13 =>
                                            Option.bind (mulF (t, t_2)) fun t_14 =>
                                              Option.bind (mulF (t_1, t_2)) fun t_15 =>
                                                bif !t_12.2 then some false
                                                else
                                                  bif !t_13.2 then some false
                                                  else
                                                    bif !t_14.2 then some false
                                                    else
                                                      bif !t_15.2 then some false
                                                      else
                                                        Option.bind (nCmpF (t_12.1, t_13.1)) fun t_16 =>
                                                          bif !decide (t_16 = t_6) then some false
                                                          else
                                                            Option.bind (nNormF t_2) fun t_17 =>
                                                              bif decide ((↑(List.length t_17) : Int) = (0 : Int)) then
                                                                Option.bind (nCmpF (t_14.1, t_15.1)) fun t_18 =>
                                                                  bif !decide (t_18 = (0 : Int)) then some false
                                                                  else
                                                                    Option.bind (nCmpF (t, t_1)) fun t_19 =>
                                                                      bif decide (t_19 ≤ (0 : Int)) then
                                                                        Option.bind (nCmpF (t_1, t_2)) fun t_20 =>
                                                                          bif decide (t_20 ≤ (0 : Int)) then Option.bind (nCmpF (t, t_2)) fun t => some (decide (t ≤ (0 : Int))) else some true
                                                                      else some true
                                                              else
                                                                Option.bind (nCmpF (t_14.1, t_15.1)) fun t_18 =>
                                                                  bif !decide (t_18 = t_6) then some false
                                                                  else
                                                                    Option.bind (nCmpF (t, t_1)) fun t_19 =>
                                                                      bif decide (t_19 ≤ (0 : Int)) then
                                                                        Option.bind (nCmpF (t_1, t_2)) fun t_20 =>
                                                                          bif decide (t_20 ≤ (0 : Int)) then Option.bind (nCmpF (t, t_2)) fun t => some (decide (t ≤ (0 : Int))) else some true
                                                                      else some true
noncomputable def NatOrder_E : Env (dens [.bool]) := envOf S.tab [(27, mkF [.sl (.int .u64)] [.sl (.int .u64)] cutF), (29, mkF [] [.bool] aliveF), (33, mkF [.sl (.int .u64), .sl (.int .u64)] [.int .i64] nCmpF), (31, mkF [.sl (.int .u64), .sl (.int .u64)] [.bool] sameF), (32, mkF [.sl (.int .u64)] [.sl (.int .u64)] nNormF), (28, mkF [.sl (.int .u64), .sl (.int .u64)] [.sl (.int .u64), .bool] addF), (36, mkF [.sl (.int .u64), .sl (.int .u64)] [.sl (.int .u64), .bool] mulF)] Go.Proofs.Try.f8 [6] [.bool]
theorem NatOrder_s0 (r : Rec (dens [.bool])) (a : List Int) (b : List Int) (c : List Int) : evT NatOrder_E NatOrder_h r 3000 false [.code (bodyOf Go.Proofs.Try.f8)] (T0 0 [.ints .u64 a, .ints .u64 b, .ints .u64 c]) [] = NatOrder_b0  a b c := by kernel_rfl
theorem NatOrder_ev (k : Nat) (a : List Int) (b : List Int) (c : List Int) : evM NatOrder_E NatOrder_h 3000 k [.code (bodyOf Go.Proofs.Try.f8)] (T0 0 [.ints .u64 a, .ints .u64 b, .ints .u64 c]) [] = NatOrder_b0  a b c := by
  exact NatOrder_s0 _ a b c

/-! ### plumb/plumblaw02.NatBits -/
def NatBits_h : Nat → Option Head := hintOf [(18, ⟨[(0, .same), (3, .fit (.sl (.int .u64))), (4, .same), (5, .same), (6, .same)], 0⟩)]
def NatBits_b0 (l18 : List Int → List Int → Int → Int → Int → Option Bool) (a : List Int) : Option (Bool) :=
  Option.bind (cutF a) fun t =>
  bif decide ((↑(List.length t) : Int) > (6 : Int)) then
    bif decide ((6 : Int) ≤ (↑(List.length t) : Int)) then Option.bind (aliveF PUnit.unit) fun t_1 => bif !t_1 then some false else l18 (List.take (nat_lit 6) t) [] (-1 : Int) (-1 : Int) (0 : Int)
    else none
  else Option.bind (aliveF PUnit.unit) fun t_1 => bif !t_1 then some false else l18 t [] (-1 : Int) (-1 : Int) (0 : Int)
def NatBits_b18 (l18 : List Int → List Int → Int → Int → Int → Option Bool) (t0 : List Int) (t3 : List Int) (t4 : Int) (t5 : Int) (t6 : Int) : Option (Bool) :=
  bif decide (t6 < addI IntKind.i64 (mulI IntKind.i64 (64 : Int) (↑(List.length t0) : Int)) (70 : Int)) then
  Option.bind (nBitF (t0, t6)) fun t =>
    bif decide (t = (0 : Int)) then l18 t0 t3 t4 t5 (addI IntKind.i64 t6 (1 : Int))
    else
      bif decide (t = (1 : Int)) then
        Option.bind (nShlF ([(1 : Int)], t6)) fun t =>
          Option.bind (addF (t3, t.1)) fun t_1 =>
            bif !decide (t.2 = (0 : Int)) then some false
            else bif !t_1.2 then some false else bif decide (t4 < (0 : Int)) then l18 t0 t_1.1 t6 t6 (addI IntKind.i64 t6 (1 : Int)) else l18 t0 t_1.1 t4 t6 (addI IntKind.i64 t6 (1 : Int))
      else some false
else
  Option.bind (nNormF t0) fun t =>
    Option.bind (sameF (t3, t)) fun t =>
      bif t then
        Option.bind (nBitsF t0) fun t =>
          bif decide (t = addI IntKind.i64 t5 (1 : Int)) then
            Option.bind (nZerosF t0) fun t => bif decide (t = maxI (0 : Int) t4) then Option.bind (nBitF (t0, (-1 : Int))) fun t => some (decide (t = (0 : Int))) else some false
          else some false
      else some false
mutual
def NatBits_L18 : Nat → (List Int) → (List Int) → Int → Int → Int → Option (Bool)
  | 0, _, _, _, _, _ => none
  | k + 1, t0, t3, t4, t5, t6 => NatBits_b18 (NatBits_L18 k) t0 t3 t4 t5 t6
end
noncomputable def NatBits_E : Env (dens [.bool]) := envOf S.tab [(27, mkF [.sl (.int .u64)] [.sl (.int .u64)] cutF), (29, mkF [] [.bool] aliveF), (41, mkF [.sl (.int .u64), .int .i64] [.int .i64] nBitF), (42, mkF [.sl (.int .u64), .int .i64] [.sl (.int .u64), .int .i64] nShlF), (28, mkF [.sl (.int .u64), .sl (.int .u64)] [.sl (.int .u64), .bool] addF), (31, mkF [.sl (.int .u64), .sl (.int .u64)] [.bool] sameF), (32, mkF [.sl (.int .u64)] [.sl (.int .u64)] nNormF), (43, mkF [.sl (.int .u64)] [.int .i64] nBitsF), (44, mkF [.sl (.int .u64)] [.int .i64] nZerosF)] Go.Proofs.Try.f5 [2] [.bool]
theorem NatBits_s0 (r : Rec (dens [.bool])) (a : List Int) : evT NatBits_E NatBits_h r 3000 false [.code (bodyOf Go.Proofs.Try.f5)] (T0 0 [.ints .u64 a]) [] = NatBits_b0 (fun t0 t3 t4 t5 t6 => r (todoOf 18 (bodyOf Go.Proofs.Try.f5)) [((0 : Nat), AV.ints IntKind.u64 t0), ((3 : Nat), AV.ints IntKind.u64 t3), ((4 : Nat), AV.int IntKind.i64 t4), ((5 : Nat), AV.int IntKind.i64 t5), ((6 : Nat), AV.int IntKind.i64 t6)] []) a := by kernel_rfl
theorem NatBits_s18 (r : Rec (dens [.bool])) (t0 : List Int) (t3 : List Int) (t4 : Int) (t5 : Int) (t6 : Int) : evT NatBits_E NatBits_h r 3000 true (todoOf 18 (bodyOf Go.Proofs.Try.f5)) [((0 : Nat), AV.ints IntKind.u64 t0), ((3 : Nat), AV.ints IntKind.u64 t3), ((4 : Nat), AV.int IntKind.i64 t4), ((5 : Nat), AV.int IntKind.i64 t5), ((6 : Nat), AV.int IntKind.i64 t6)] [] = NatBits_b18 (fun t0 t3 t4 t5 t6 => r (todoOf 18 (bodyOf Go.Proofs.Try.f5)) [((0 : Nat), AV.ints IntKind.u64 t0), ((3 : Nat), AV.ints IntKind.u64 t3), ((4 : Nat), AV.int IntKind.i64 t4), ((5 : Nat), AV.int IntKind.i64 t5), ((6 : Nat), AV.int IntKind.i64 t6)] []) t0 t3 t4 t5 t6 := by kernel_rfl
theorem NatBits_k : ∀ k, (∀ (t0 : List Int) (t3 : List Int) (t4 : Int) (t5 : Int) (t6 : Int), evK NatBits_E NatBits_h 3000 k (todoOf 18 (bodyOf Go.Proofs.Try.f5)) [((0 : Nat), AV.ints IntKind.u64 t0), ((3 : Nat), AV.ints IntKind.u64 t3), ((4 : Nat), AV.int IntKind.i64 t4), ((5 : Nat), AV.int IntKind.i64 t5), ((6 : Nat), AV.int IntKind.i64 t6)] [] = NatBits_L18 k t0 t3 t4 t5 t6)
  | 0 => by
    refine ?_ <;> intros <;> rfl
  | k + 1 => by
    have ih := NatBits_k k
    refine ?_ <;> intros
    · exact ((NatBits_s18 _ _ _ _ _ _).trans (by simp only [ih] <;> rfl))
theorem NatBits_ev (k : Nat) (a : List Int) : evM NatBits_E NatBits_h 3000 k [.code (bodyOf Go.Proofs.Try.f5)] (T0 0 [.ints .u64 a]) [] = NatBits_b0 (NatBits_L18 k) a := by
  refine (NatBits_s0 _ a).trans ?_
  simp only [NatBits_k k] <;> rfl

/-! ### plumb/plumblaw02.NatSteps -/
def NatSteps_h : Nat → Option Head := hintOf []
def NatSteps_b0  (a : List Int) (b : Int) (c : Int) : Option (Bool) :=
  Option.bind (cutF a) fun t =>
  Option.bind (intoF (b, (400 : Int))) fun t_1 =>
    Option.bind (intoF (c, (400 : Int))) fun t_2 =>
      Option.bind (nShlF (t, t_1)) fun t_3 =>
        Option.bind (nShlF (t_3.1, t_2)) fun t_4 =>
          Option.bind (nShlF (t, addI IntKind.i64 t_1 t_2)) fun t_5 =>
            Option.bind (nShlF ([(1 : Int)], t_1)) fun t_6 =>
              Option.bind (nMulF (t, t_6.1)) fun t_7 =>
                bif !decide (t_3.2 = (0 : Int)) then some false
                else
                  bif !decide (t_4.2 = (0 : Int)) then some false
                  else
                    bif !decide (t_5.2 = (0 : Int)) then some false
                    else
                      bif !decide (t_6.2 = (0 : Int)) then some false
                      else
                        bif !decide (t_7.2 = (0 : Int)) then some false
                        else
                          Option.bind (aliveF PUnit.unit) fun t_8 =>
                            bif !t_8 then some false
                            else
                              Option.bind (sameF (t_4.1, t_5.1)) fun t_9 =>
                                bif !t_9 then some false
                                else
                                  Option.bind (sameF (t_3.1, t_7.1)) fun t_10 =>
                                    bif !t_10 then some false
                                    else
                                      Option.bind (nShrF (t_3.1, t_1)) fun t_11 =>
                                        Option.bind (nShrF (t, t_1)) fun t_12 =>
                                          Option.bind (nShrF (t_12.1, t_2)) fun t_13 =>
                                            Option.bind (nShrF (t, addI IntKind.i64 t_1 t_2)) fun t_14 =>
                                              bif !decide ((Prod.snd t_11).2 = (0 : Int)) then some false
                                              else
                                                bif !decide ((Prod.snd t_12).2 = (0 : Int)) then some false
                                                else
                                                  bif !decide ((Prod.snd t_13).2 = (0 : Int)) then some false
                                                  else
                                                    bif !decide ((Prod.snd t_14).2 = (0 : Int)) then some false
                                                    else
                                                      bif (Prod.snd t_11).1 then some false
                                                      else
                                                        Option.bind (nNormF t) fun t_15 =>
                                                          Option.bind (sameF (t_11.1, t_15)) fun t_16 =>
                                                            bif !t_16 then some false
                                                            else
                                                              Option.bind (sameF (t_13.1, t_14.1)) fun t_17 =>
                                                                bif !t_17 then some false
                                                                else
                                                                  bif (Prod.snd t_12).1 then
                                                                    bif !decide (true = (Prod.snd t_14).1) then some false
                                                                    else
                                                                      Option.bind (nShlF (t_12.1, t_1)) fun t_18 =>
                                                                        Option.bind (nSubF (t, t_18.1)) fun t =>
                                                                          bif decide (t_18.2 = (0 : Int)) then
                                                                            bif decide (t.2 = (0 : Int)) then
                                                                              Option.bind (nCmpF (t.1, t_6.1)) fun t_19 =>
                                                                                bif decide (t_19 < (0 : Int)) then some (decide ((Prod.snd t_12).1 = decide ((↑(List.length t.1) : Int) > (0 : Int))))
                                                                                else some false
                                                                            else some false
                                                                          else some false
                                                                  else
                                                                    bif !decide ((Prod.snd t_13).1 = (Prod.snd t_14).1) then some false
                                                                    else
                                                                      Option.bind (nShlF (t_12.1, t_1)) fun t_18 =>
                                                                        Option.bind (nSubF (t, t_18.1)) fun t =>
                                                                          bif decide (t_18.2 = (0 : Int)) then
                                                                            bif decide (t.2 = (0 : Int)) then
                                                                              Option.bind (nCmpF (t.1, t_6.1)) fun t_19 =>
                                                                                bif decide (t_19 < (0 : Int)) then some (decide ((Prod.snd t_12).1 = decide ((↑(List.length t.1) : Int) > (0 : Int))))
                                                                                else some false
                                                                            else some false
                                                                          else some false
noncomputable def NatSteps_E : Env (dens [.bool]) := envOf S.tab [(27, mkF [.sl (.int .u64)] [.sl (.int .u64)] cutF), (68, mkF [.int .i64, .int .i64] [.int .i64] intoF), (42, mkF [.sl (.int .u64), .int .i64] [.sl (.int .u64), .int .i64] nShlF), (38, mkF [.sl (.int .u64), .sl (.int .u64)] [.sl (.int .u64), .int .i64] nMulF), (29, mkF [] [.bool] aliveF), (31, mkF [.sl (.int .u64), .sl (.int .u64)] [.bool] sameF), (52, mkF [.sl (.int .u64), .int .i64] [.sl (.int .u64), .bool, .int .i64] nShrF), (32, mkF [.sl (.int .u64)] [.sl (.int .u64)] nNormF), (30, mkF [.sl (.int .u64), .sl (.int .u64)] [.sl (.int .u64), .int .i64] nSubF), (33, mkF [.sl (.int .u64), .sl (.int .u64)] [.int .i64] nCmpF)] Go.Proofs.Try.f10 [6] [.bool]
theorem NatSteps_s0 (r : Rec (dens [.bool])) (a : List Int) (b : Int) (c : Int) : evT NatSteps_E NatSteps_h r 3000 false [.code (bodyOf Go.Proofs.Try.f10)] (T0 0 [.ints .u64 a, .int .i64 b, .int .i64 c]) [] = NatSteps_b0  a b c := by kernel_rfl
theorem NatSteps_ev (k : Nat) (a : List Int) (b : Int) (c : Int) : evM NatSteps_E NatSteps_h 3000 k [.code (bodyOf Go.Proofs.Try.f10)] (T0 0 [.ints .u64 a, .int .i64 b, .int .i64 c]) [] = NatSteps_b0  a b c := by
  exact NatSteps_s0 _ a b c

end
end Go.RX.S
