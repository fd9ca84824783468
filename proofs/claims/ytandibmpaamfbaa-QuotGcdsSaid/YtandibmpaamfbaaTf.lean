/- What functions compute, printed. -/
import Derived.Test.YtandibmpaamfbaaTe
set_option linter.unusedVariables false
set_option linter.unusedSimpArgs false
namespace Go.RX.S
open Go Go.RX
noncomputable section
/-! ### plumb/quot.Gcd -/
def Gcd_h : Nat → Option Head := hintOf [(4, ⟨[(0, .same), (1, .same)], 0⟩)]
def Gcd_b0 (l4 : List Int → List Int → Option (List Int)) (a : List Int) (b : List Int) : Option (List Int) :=
  Option.bind (nNormF a) fun t => Option.bind (nNormF b) fun t_1 => l4 t t_1
def Gcd_b4 (l4 : List Int → List Int → Option (List Int)) (t0 : List Int) (t1 : List Int) : Option (List Int) :=
  bif decide ((↑(List.length t1) : Int) > (0 : Int)) then Option.bind (DivModF (t0, t1)) fun t => l4 t1 (Prod.snd t).1 else some t0
mutual
def Gcd_L4 : Nat → (List Int) → (List Int) → Option (List Int)
  | 0, _, _ => none
  | k + 1, t0, t1 => Gcd_b4 (Gcd_L4 k) t0 t1
end
noncomputable def Gcd_E : Env (dens [.sl (.int .u64)]) := envOf S.tab [(32, mkZ [.sl (.int .u64)] .u64 nNormF), (75, mkF [.sl (.int .u64), .sl (.int .u64)] [.sl (.int .u64), .sl (.int .u64), .int .i64] DivModF)] Go.Proofs.Try.f79 [4] [.sl (.int .u64)]
theorem Gcd_s0 (r : Rec (dens [.sl (.int .u64)])) (a : List Int) (b : List Int) : evT Gcd_E Gcd_h r 3000 false [.code (bodyOf Go.Proofs.Try.f79)] (T0 0 [.ints .u64 a, .ints .u64 b]) [] = Gcd_b0 (fun t0 t1 => r (todoOf 4 (bodyOf Go.Proofs.Try.f79)) [((0 : Nat), AV.ints IntKind.u64 t0), ((1 : Nat), AV.ints IntKind.u64 t1)] []) a b := by kernel_rfl
theorem Gcd_s4 (r : Rec (dens [.sl (.int .u64)])) (t0 : List Int) (t1 : List Int) : evT Gcd_E Gcd_h r 3000 true (todoOf 4 (bodyOf Go.Proofs.Try.f79)) [((0 : Nat), AV.ints IntKind.u64 t0), ((1 : Nat), AV.ints IntKind.u64 t1)] [] = Gcd_b4 (fun t0 t1 => r (todoOf 4 (bodyOf Go.Proofs.Try.f79)) [((0 : Nat), AV.ints IntKind.u64 t0), ((1 : Nat), AV.ints IntKind.u64 t1)] []) t0 t1 := by kernel_rfl
theorem Gcd_k : ∀ k, (∀ (t0 : List Int) (t1 : List Int), evK Gcd_E Gcd_h 3000 k (todoOf 4 (bodyOf Go.Proofs.Try.f79)) [((0 : Nat), AV.ints IntKind.u64 t0), ((1 : Nat), AV.ints IntKind.u64 t1)] [] = Gcd_L4 k t0 t1)
  | 0 => by
    refine ?_ <;> intros <;> rfl
  | k + 1 => by
    have ih := Gcd_k k
    refine ?_ <;> intros
    · exact ((Gcd_s4 _ _ _).trans (by simp only [ih] <;> rfl))
theorem Gcd_ev (k : Nat) (a : List Int) (b : List Int) : evM Gcd_E Gcd_h 3000 k [.code (bodyOf Go.Proofs.Try.f79)] (T0 0 [.ints .u64 a, .ints .u64 b]) [] = Gcd_b0 (Gcd_L4 k) a b := by
  refine (Gcd_s0 _ a b).trans ?_
  simp only [Gcd_k k] <;> rfl

/-! ### plumb/quot.Root -/
def Root_h : Nat → Option Head := hintOf [(14, ⟨[(0, .same), (5, .fit (.sl (.int .u64)))], 0⟩)]
def Root_b0 (l14 : List Int → List Int → Option (List Int × Bool)) (a : List Int) : Option (List Int × Bool) :=
  Option.bind (nNormF a) fun t =>
  bif decide ((↑(List.length t) : Int) = (0 : Int)) then some ([], true)
  else
    Option.bind (nBitsF t) fun t_1 =>
      bif
          bif decide ((0 : Int) ≤ addI IntKind.i64 (divI IntKind.i64 (divI IntKind.i64 (addI IntKind.i64 t_1 (1 : Int)) (2 : Int)) (64 : Int)) (1 : Int)) then
            decide (addI IntKind.i64 (divI IntKind.i64 (divI IntKind.i64 (addI IntKind.i64 t_1 (1 : Int)) (2 : Int)) (64 : Int)) (1 : Int) * (8 : Int) ≤ (281474976710656 : Int))
          else false then
        bif decide ((0 : Int) ≤ remI (divI IntKind.i64 (addI IntKind.i64 t_1 (1 : Int)) (2 : Int)) (64 : Int)) then
          bif
              inRange (divI IntKind.i64 (divI IntKind.i64 (addI IntKind.i64 t_1 (1 : Int)) (2 : Int)) (64 : Int))
                (List.length (List.replicate (Int.toNat (addI IntKind.i64 (divI IntKind.i64 (divI IntKind.i64 (addI IntKind.i64 t_1 (1 : Int)) (2 : Int)) (64 : Int)) (1 : Int))) (0 : Int))) then
            l14 t
              (wrI (List.replicate (Int.toNat (addI IntKind.i64 (divI IntKind.i64 (divI IntKind.i64 (addI IntKind.i64 t_1 (1 : Int)) (2 : Int)) (64 : Int)) (1 : Int))) (0 : Int))
                (Int.toNat (divI IntKind.i64 (divI IntKind.i64 (addI IntKind.i64 t_1 (1 : Int)) (2 : Int)) (64 : Int)))
                (shlI IntKind.u64 (1 : Int) (remI (divI IntKind.i64 (addI IntKind.i64 t_1 (1 : Int)) (2 : Int)) (64 : Int))))
          else none
        else none
      else none
def Root_b14 (l14 : List Int → List Int → Option (List Int × Bool)) (t0 : List Int) (t5 : List Int) : Option (List Int × Bool) :=
  Option.bind (DivModF (t0, t5)) fun t =>
  Option.bind (qaddF (t5, t.1)) fun t_1 =>
    Option.bind (qshrF (t_1, (1 : Int))) fun t_2 =>
      Option.bind (nCmpF (t_2, t5)) fun t_3 =>
        bif decide (t_3 ≥ (0 : Int)) then
          Option.bind (nNormF t5) fun t_4 =>
            bif decide ((↑(List.length (Prod.snd t).1) : Int) = (0 : Int)) then Option.bind (nCmpF (t.1, t5)) fun t => some (t_4, decide (t = (0 : Int))) else some (t_4, false)
        else l14 t0 t_2
mutual
def Root_L14 : Nat → (List Int) → (List Int) → Option (List Int × Bool)
  | 0, _, _ => none
  | k + 1, t0, t5 => Root_b14 (Root_L14 k) t0 t5
end
noncomputable def Root_E : Env (dens [.sl (.int .u64), .bool]) := envOf S.tab [(32, mkZ [.sl (.int .u64)] .u64 nNormF), (43, mkF [.sl (.int .u64)] [.int .i64] nBitsF), (75, mkF [.sl (.int .u64), .sl (.int .u64)] [.sl (.int .u64), .sl (.int .u64), .int .i64] DivModF), (133, mkF [.sl (.int .u64), .sl (.int .u64)] [.sl (.int .u64)] qaddF), (132, mkZ [.sl (.int .u64), .int .i64] .u64 qshrF), (33, mkF [.sl (.int .u64), .sl (.int .u64)] [.int .i64] nCmpF)] Go.Proofs.Try.f83 [2, 3] [.sl (.int .u64), .bool]
theorem Root_s0 (r : Rec (dens [.sl (.int .u64), .bool])) (a : List Int) : evT Root_E Root_h r 3000 false [.code (bodyOf Go.Proofs.Try.f83)] (T0 0 [.ints .u64 a]) [] = Root_b0 (fun t0 t5 => r (todoOf 14 (bodyOf Go.Proofs.Try.f83)) [((0 : Nat), AV.ints IntKind.u64 t0), ((5 : Nat), AV.ints IntKind.u64 t5)] []) a := by kernel_rfl
theorem Root_s14 (r : Rec (dens [.sl (.int .u64), .bool])) (t0 : List Int) (t5 : List Int) : evT Root_E Root_h r 3000 true (todoOf 14 (bodyOf Go.Proofs.Try.f83)) [((0 : Nat), AV.ints IntKind.u64 t0), ((5 : Nat), AV.ints IntKind.u64 t5)] [] = Root_b14 (fun t0 t5 => r (todoOf 14 (bodyOf Go.Proofs.Try.f83)) [((0 : Nat), AV.ints IntKind.u64 t0), ((5 : Nat), AV.ints IntKind.u64 t5)] []) t0 t5 := by kernel_rfl
theorem Root_k : ∀ k, (∀ (t0 : List Int) (t5 : List Int), evK Root_E Root_h 3000 k (todoOf 14 (bodyOf Go.Proofs.Try.f83)) [((0 : Nat), AV.ints IntKind.u64 t0), ((5 : Nat), AV.ints IntKind.u64 t5)] [] = Root_L14 k t0 t5)
  | 0 => by
    refine ?_ <;> intros <;> rfl
  | k + 1 => by
    have ih := Root_k k
    refine ?_ <;> intros
    · exact ((Root_s14 _ _ _).trans (by simp only [ih] <;> rfl))
theorem Root_ev (k : Nat) (a : List Int) : evM Root_E Root_h 3000 k [.code (bodyOf Go.Proofs.Try.f83)] (T0 0 [.ints .u64 a]) [] = Root_b0 (Root_L14 k) a := by
  refine (Root_s0 _ a).trans ?_
  simp only [Root_k k] <;> rfl

/-! ### plumb/quot.Lowest -/
def Lowest_h : Nat → Option Head := hintOf []
def Lowest_b0  (a : List Int) (b : List Int) : Option (List Int × List Int) :=
  Option.bind (GcdF (a, b)) fun t =>
  bif decide ((↑(List.length t) : Int) = (0 : Int)) then some ([], []) else Option.bind (DivModF (a, t)) fun t_1 => Option.bind (DivModF (b, t)) fun t => some (t_1.1, t.1)
noncomputable def Lowest_E : Env (dens [.sl (.int .u64), .sl (.int .u64)]) := envOf S.tab [(79, mkF [.sl (.int .u64), .sl (.int .u64)] [.sl (.int .u64)] GcdF), (75, mkF [.sl (.int .u64), .sl (.int .u64)] [.sl (.int .u64), .sl (.int .u64), .int .i64] DivModF)] Go.Proofs.Try.f81 [4, 5] [.sl (.int .u64), .sl (.int .u64)]
theorem Lowest_s0 (r : Rec (dens [.sl (.int .u64), .sl (.int .u64)])) (a : List Int) (b : List Int) : evT Lowest_E Lowest_h r 3000 false [.code (bodyOf Go.Proofs.Try.f81)] (T0 0 [.ints .u64 a, .ints .u64 b]) [] = Lowest_b0  a b := by kernel_rfl
theorem Lowest_ev (k : Nat) (a : List Int) (b : List Int) : evM Lowest_E Lowest_h 3000 k [.code (bodyOf Go.Proofs.Try.f81)] (T0 0 [.ints .u64 a, .ints .u64 b]) [] = Lowest_b0  a b := by
  exact Lowest_s0 _ a b

/-! ### plumb/plumblaw03.bounded -/
def bounded_h : Nat → Option Head := hintOf [(6, ⟨[(0, .same), (1, .same), (5, .vec 36), (6, .same)], 1⟩)]
def bounded_b0 (l6 : List Int → Int → Int → List Int → Option (List Int)) (a : List Int) (b : Int) : Option (List Int) :=
  l6 a b (0 : Int) []
def bounded_b6 (l6 : List Int → Int → Int → List Int → Option (List Int)) (t0 : List Int) (t1 : Int) (t6 : Int) (h0 : List Int) : Option (List Int) :=
  bif decide (t6 < (↑(List.length t0) : Int)) then
  bif decide (t6 < t1) then
    bif inRange t6 (List.length t0) then
      bif decide ((↑(List.length (h0 ++ [rdI t0 t6])) : Int) * (8 : Int) ≤ (140737488355328 : Int)) then l6 t0 t1 (addI IntKind.i64 t6 (1 : Int)) (h0 ++ [rdI t0 t6]) else none
    else none
  else some h0
else some h0
mutual
def bounded_L6 : Nat → (List Int) → Int → Int → (List Int) → Option (List Int)
  | 0, _, _, _, _ => none
  | k + 1, t0, t1, t6, h0 => bounded_b6 (bounded_L6 k) t0 t1 t6 h0
end
noncomputable def bounded_E : Env (dens [.sl (.int .u64)]) := envOf S.tab [] Go.Proofs.Try.f86 [4] [.sl (.int .u64)]
theorem bounded_s0 (r : Rec (dens [.sl (.int .u64)])) (a : List Int) (b : Int) : evT bounded_E bounded_h r 3000 false [.code (bodyOf Go.Proofs.Try.f86)] (T0 0 [.ints .u64 a, .int .i64 b]) [] = bounded_b0 (fun t0 t1 t6 h0 => r (todoOf 6 (bodyOf Go.Proofs.Try.f86)) [((0 : Nat), AV.ints IntKind.u64 t0), ((1 : Nat), AV.int IntKind.i64 t1), ((5 : Nat), AV.vec (nat_lit 0) (nat_lit 1)), ((6 : Nat), AV.int IntKind.i64 t6)] [Blk.I (nat_lit 36) IntKind.u64 h0]) a b := by kernel_rfl
theorem bounded_s6 (r : Rec (dens [.sl (.int .u64)])) (t0 : List Int) (t1 : Int) (t6 : Int) (h0 : List Int) : evT bounded_E bounded_h r 3000 true (todoOf 6 (bodyOf Go.Proofs.Try.f86)) [((0 : Nat), AV.ints IntKind.u64 t0), ((1 : Nat), AV.int IntKind.i64 t1), ((5 : Nat), AV.vec (nat_lit 0) (nat_lit 1)), ((6 : Nat), AV.int IntKind.i64 t6)] [Blk.I (nat_lit 36) IntKind.u64 h0] = bounded_b6 (fun t0 t1 t6 h0 => r (todoOf 6 (bodyOf Go.Proofs.Try.f86)) [((0 : Nat), AV.ints IntKind.u64 t0), ((1 : Nat), AV.int IntKind.i64 t1), ((5 : Nat), AV.vec (nat_lit 0) (nat_lit 1)), ((6 : Nat), AV.int IntKind.i64 t6)] [Blk.I (nat_lit 36) IntKind.u64 h0]) t0 t1 t6 h0 := by kernel_rfl
theorem bounded_k : ∀ k, (∀ (t0 : List Int) (t1 : Int) (t6 : Int) (h0 : List Int), evK bounded_E bounded_h 3000 k (todoOf 6 (bodyOf Go.Proofs.Try.f86)) [((0 : Nat), AV.ints IntKind.u64 t0), ((1 : Nat), AV.int IntKind.i64 t1), ((5 : Nat), AV.vec (nat_lit 0) (nat_lit 1)), ((6 : Nat), AV.int IntKind.i64 t6)] [Blk.I (nat_lit 36) IntKind.u64 h0] = bounded_L6 k t0 t1 t6 h0)
  | 0 => by
    refine ?_ <;> intros <;> rfl
  | k + 1 => by
    have ih := bounded_k k
    refine ?_ <;> intros
    · exact ((bounded_s6 _ _ _ _ _).trans (by simp only [ih] <;> rfl))
theorem bounded_ev (k : Nat) (a : List Int) (b : Int) : evM bounded_E bounded_h 3000 k [.code (bodyOf Go.Proofs.Try.f86)] (T0 0 [.ints .u64 a, .int .i64 b]) [] = bounded_b0 (bounded_L6 k) a b := by
  refine (bounded_s0 _ a b).trans ?_
  simp only [bounded_k k] <;> rfl

/-! ### plumb/plumblaw03.normal -/
def normal3_h : Nat → Option Head := hintOf []
def normal3_b0  (a : List Int) : Option (Bool) :=
  bif decide ((↑(List.length a) : Int) = (0 : Int)) then some true
else bif inRange (subI IntKind.i64 (↑(List.length a) : Int) (1 : Int)) (List.length a) then some !decide (rdI a (subI IntKind.i64 (↑(List.length a) : Int) (1 : Int)) = (0 : Int)) else none
noncomputable def normal3_E : Env (dens [.bool]) := envOf S.tab [] Go.Proofs.Try.f90 [2] [.bool]
theorem normal3_s0 (r : Rec (dens [.bool])) (a : List Int) : evT normal3_E normal3_h r 3000 false [.code (bodyOf Go.Proofs.Try.f90)] (T0 0 [.ints .u64 a]) [] = normal3_b0  a := by kernel_rfl
theorem normal3_ev (k : Nat) (a : List Int) : evM normal3_E normal3_h 3000 k [.code (bodyOf Go.Proofs.Try.f90)] (T0 0 [.ints .u64 a]) [] = normal3_b0  a := by
  exact normal3_s0 _ a

/-! ### plumb/plumblaw03.zero -/
def zero_h : Nat → Option Head := hintOf []
def zero_b0  (a : List Int) : Option (Bool) :=
  Option.bind (nCmpF (a, [])) fun t => some (decide (t = (0 : Int)))
noncomputable def zero_E : Env (dens [.bool]) := envOf S.tab [(33, mkF [.sl (.int .u64), .sl (.int .u64)] [.int .i64] nCmpF)] Go.Proofs.Try.f88 [2] [.bool]
theorem zero_s0 (r : Rec (dens [.bool])) (a : List Int) : evT zero_E zero_h r 3000 false [.code (bodyOf Go.Proofs.Try.f88)] (T0 0 [.ints .u64 a]) [] = zero_b0  a := by kernel_rfl
theorem zero_ev (k : Nat) (a : List Int) : evM zero_E zero_h 3000 k [.code (bodyOf Go.Proofs.Try.f88)] (T0 0 [.ints .u64 a]) [] = zero_b0  a := by
  exact zero_s0 _ a

/-! ### plumb/plumblaw03.times -/
def times_h : Nat → Option Head := hintOf []
def times_b0  (a : List Int) (b : List Int) (c : List Int) : Option (List Int × Bool) :=
  Option.bind (nMulF (a, b)) fun t =>
  Option.bind (nAddF (t.1, c)) fun t_1 =>
    Option.bind (numF t.2) fun t => bif decide (t = (0 : Int)) then Option.bind (numF t_1.2) fun t => some (t_1.1, decide (t = (0 : Int))) else some (t_1.1, false)
noncomputable def times_E : Env (dens [.sl (.int .u64), .bool]) := envOf S.tab [(38, mkF [.sl (.int .u64), .sl (.int .u64)] [.sl (.int .u64), .int .i64] nMulF), (40, mkF [.sl (.int .u64), .sl (.int .u64)] [.sl (.int .u64), .int .i64] nAddF), (49, mkF [.int .i64] [.int .i64] numF)] Go.Proofs.Try.f89 [6, 7] [.sl (.int .u64), .bool]
theorem times_s0 (r : Rec (dens [.sl (.int .u64), .bool])) (a : List Int) (b : List Int) (c : List Int) : evT times_E times_h r 3000 false [.code (bodyOf Go.Proofs.Try.f89)] (T0 0 [.ints .u64 a, .ints .u64 b, .ints .u64 c]) [] = times_b0  a b c := by kernel_rfl
theorem times_ev (k : Nat) (a : List Int) (b : List Int) (c : List Int) : evM times_E times_h 3000 k [.code (bodyOf Go.Proofs.Try.f89)] (T0 0 [.ints .u64 a, .ints .u64 b, .ints .u64 c]) [] = times_b0  a b c := by
  exact times_s0 _ a b c

/-! ### plumb/plumblaw03.live -/
def live_h : Nat → Option Head := hintOf []
def live_b0   : Option (Bool) :=
  Option.bind (DivModF ([(7 : Int)], [(2 : Int)])) fun t =>
  Option.bind (RootF [(49 : Int)]) fun t_1 =>
    Option.bind (qPowF ([(3 : Int)], (4 : Int))) fun t_2 =>
      Option.bind (numF (Prod.snd t).2) fun t_3 =>
        bif decide (t_3 = (0 : Int)) then
          Option.bind (numF t_2.2) fun t_4 =>
            bif decide (t_4 = (0 : Int)) then
              Option.bind (sameF (t.1, [(3 : Int)])) fun t_5 =>
                bif t_5 then
                  Option.bind (sameF ((Prod.snd t).1, [(1 : Int)])) fun t =>
                    bif t then
                      Option.bind (sameF (t_2.1, [(81 : Int)])) fun t =>
                        bif t then
                          Option.bind (sameF (t_1.1, [(7 : Int)])) fun t =>
                            bif t then
                              bif t_1.2 then
                                Option.bind (GcdF ([(12 : Int)], [(18 : Int)])) fun t =>
                                  Option.bind (sameF (t, [(6 : Int)])) fun t => bif t then Option.bind (nCmpF ([(2 : Int)], [(1 : Int)])) fun t => some (decide (t = (1 : Int))) else some false
                              else some false
                            else some false
                        else some false
                    else some false
                else some false
            else some false
        else some false
noncomputable def live_E : Env (dens [.bool]) := envOf S.tab [(75, mkF [.sl (.int .u64), .sl (.int .u64)] [.sl (.int .u64), .sl (.int .u64), .int .i64] DivModF), (83, mkF [.sl (.int .u64)] [.sl (.int .u64), .bool] RootF), (46, mkF [.sl (.int .u64), .int .i64] [.sl (.int .u64), .int .i64] qPowF), (48, mkF [.sl (.int .u64), .sl (.int .u64)] [.bool] sameF), (49, mkF [.int .i64] [.int .i64] numF), (79, mkF [.sl (.int .u64), .sl (.int .u64)] [.sl (.int .u64)] GcdF), (33, mkF [.sl (.int .u64), .sl (.int .u64)] [.int .i64] nCmpF)] Go.Proofs.Try.f85 [0] [.bool]
theorem live_s0 (r : Rec (dens [.bool]))  : evT live_E live_h r 3000 false [.code (bodyOf Go.Proofs.Try.f85)] (T0 0 []) [] = live_b0   := by kernel_rfl
theorem live_ev (k : Nat)  : evM live_E live_h 3000 k [.code (bodyOf Go.Proofs.Try.f85)] (T0 0 []) [] = live_b0   := by
  exact live_s0 _ 

/-! ### plumb/plumblaw03.divides -/
def divides_h : Nat → Option Head := hintOf []
def divides_b0  (a : List Int) (b : List Int) : Option (Bool) :=
  Option.bind (DivModF (b, a)) fun t => Option.bind (numF (Prod.snd t).2) fun t_1 => bif decide (t_1 = (0 : Int)) then some (decide ((↑(List.length (Prod.snd t).1) : Int) = (0 : Int))) else some false
noncomputable def divides_E : Env (dens [.bool]) := envOf S.tab [(75, mkF [.sl (.int .u64), .sl (.int .u64)] [.sl (.int .u64), .sl (.int .u64), .int .i64] DivModF), (49, mkF [.int .i64] [.int .i64] numF)] Go.Proofs.Try.f92 [4] [.bool]
theorem divides_s0 (r : Rec (dens [.bool])) (a : List Int) (b : List Int) : evT divides_E divides_h r 3000 false [.code (bodyOf Go.Proofs.Try.f92)] (T0 0 [.ints .u64 a, .ints .u64 b]) [] = divides_b0  a b := by kernel_rfl
theorem divides_ev (k : Nat) (a : List Int) (b : List Int) : evM divides_E divides_h 3000 k [.code (bodyOf Go.Proofs.Try.f92)] (T0 0 [.ints .u64 a, .ints .u64 b]) [] = divides_b0  a b := by
  exact divides_s0 _ a b

/-! ### plumb/plumblaw03.within -/
def within_h : Nat → Option Head := hintOf []
def within_b0  (a : Int) (b : Int) : Option (Int) :=
  bif !decide (addI IntKind.i64 b (1 : Int) = (0 : Int)) then
  bif decide (remI a (addI IntKind.i64 b (1 : Int)) < (0 : Int)) then some (addI IntKind.i64 (addI IntKind.i64 (remI a (addI IntKind.i64 b (1 : Int))) b) (1 : Int))
  else some (remI a (addI IntKind.i64 b (1 : Int)))
else none
noncomputable def within_E : Env (dens [.int .i64]) := envOf S.tab [] Go.Proofs.Try.f91 [4] [.int .i64]
theorem within_s0 (r : Rec (dens [.int .i64])) (a : Int) (b : Int) : evT within_E within_h r 3000 false [.code (bodyOf Go.Proofs.Try.f91)] (T0 0 [.int .i64 a, .int .i64 b]) [] = within_b0  a b := by kernel_rfl
theorem within_ev (k : Nat) (a : Int) (b : Int) : evM within_E within_h 3000 k [.code (bodyOf Go.Proofs.Try.f91)] (T0 0 [.int .i64 a, .int .i64 b]) [] = within_b0  a b := by
  exact within_s0 _ a b

/-! ### plumb/plumblaw03.QuotDivides -/
def QuotDivides_h : Nat → Option Head := hintOf []
def QuotDivides_b0  (a : List Int) (b : List Int) : Option (Bool) :=
  Option.bind (liveF PUnit.unit) fun t =>
  bif !t then some false
  else
    Option.bind (boundedF (a, (1000 : Int))) fun t =>
      Option.bind (boundedF (b, (1000 : Int))) fun t_1 =>
        Option.bind (DivModF (t, t_1)) fun t_2 =>
          Option.bind (zeroF t_1) fun t_3 =>
            bif t_3 then
              Option.bind (numF (Prod.snd t_2).2) fun t =>
                bif decide (t = (30 : Int)) then bif decide ((↑(List.length t_2.1) : Int) = (0 : Int)) then some (decide ((↑(List.length (Prod.snd t_2).1) : Int) = (0 : Int))) else some false
                else some false
            else
              Option.bind (timesF (t_2.1, t_1, (Prod.snd t_2).1)) fun t_4 =>
                Option.bind (numF (Prod.snd t_2).2) fun t_5 =>
                  bif !decide (t_5 = (0 : Int)) then some false
                  else
                    bif !t_4.2 then some false
                    else
                      Option.bind (nCmpF (t_4.1, t)) fun t_6 =>
                        bif !decide (t_6 = (0 : Int)) then some false
                        else
                          Option.bind (nCmpF ((Prod.snd t_2).1, t_1)) fun t_7 =>
                            bif decide (t_7 ≥ (0 : Int)) then some false
                            else
                              Option.bind (normalF t_2.1) fun t_8 =>
                                bif !t_8 then some false
                                else
                                  Option.bind (normalF (Prod.snd t_2).1) fun t_9 =>
                                    bif !t_9 then some false
                                    else
                                      bif inRange (0 : Int) (List.length t_1) then
                                        bif decide (rdI t_1 (0 : Int) = (0 : Int)) then
                                          Option.bind (qSmallF (t, (0 : Int))) fun t => Option.bind (numF (Prod.snd t).2) fun t => some (decide (t = (30 : Int)))
                                        else
                                          bif inRange (0 : Int) (List.length t_1) then
                                            Option.bind (qSmallF (t, rdI t_1 (0 : Int))) fun t_10 =>
                                              bif decide ((1 : Int) ≤ (↑(List.length t_1) : Int)) then
                                                Option.bind (DivModF (t, List.take (nat_lit 1) t_1)) fun t =>
                                                  Option.bind (numF (Prod.snd t_10).2) fun t_11 =>
                                                    bif decide (t_11 = (0 : Int)) then
                                                      Option.bind (numF (Prod.snd t).2) fun t_12 =>
                                                        bif decide (t_12 = (0 : Int)) then
                                                          Option.bind (sameF (t_10.1, t.1)) fun t_13 =>
                                                            bif t_13 then
                                                              Option.bind (nFromF (Prod.snd t_10).1) fun t_14 =>
                                                                Option.bind (sameF ((Prod.snd t).1, t_14)) fun t =>
                                                                  bif t then bif inRange (0 : Int) (List.length t_1) then some (decide ((Prod.snd t_10).1 < rdI t_1 (0 : Int))) else none
                                                                  else some false
                                                            else some false
                                                        else some false
                                                    else some false
                                              else none
                                          else none
                                      else none
noncomputable def QuotDivides_E : Env (dens [.bool]) := envOf S.tab [(85, mkF [] [.bool] liveF), (86, mkF [.sl (.int .u64), .int .i64] [.sl (.int .u64)] boundedF), (75, mkF [.sl (.int .u64), .sl (.int .u64)] [.sl (.int .u64), .sl (.int .u64), .int .i64] DivModF), (88, mkF [.sl (.int .u64)] [.bool] zeroF), (49, mkF [.int .i64] [.int .i64] numF), (89, mkF [.sl (.int .u64), .sl (.int .u64), .sl (.int .u64)] [.sl (.int .u64), .bool] timesF), (33, mkF [.sl (.int .u64), .sl (.int .u64)] [.int .i64] nCmpF), (90, mkF [.sl (.int .u64)] [.bool] normalF), (77, mkF [.sl (.int .u64), .int .u64] [.sl (.int .u64), .int .u64, .int .i64] qSmallF), (48, mkF [.sl (.int .u64), .sl (.int .u64)] [.bool] sameF), (62, mkF [.int .u64] [.sl (.int .u64)] nFromF)] Go.Proofs.Try.f16 [4] [.bool]
theorem QuotDivides_s0 (r : Rec (dens [.bool])) (a : List Int) (b : List Int) : evT QuotDivides_E QuotDivides_h r 3000 false [.code (bodyOf Go.Proofs.Try.f16)] (T0 0 [.ints .u64 a, .ints .u64 b]) [] = QuotDivides_b0  a b := by kernel_rfl
theorem QuotDivides_ev (k : Nat) (a : List Int) (b : List Int) : evM QuotDivides_E QuotDivides_h 3000 k [.code (bodyOf Go.Proofs.Try.f16)] (T0 0 [.ints .u64 a, .ints .u64 b]) [] = QuotDivides_b0  a b := by
  exact QuotDivides_s0 _ a b

/-! ### plumb/plumblaw03.QuotBack -/
def QuotBack_h : Nat → Option Head := hintOf []
def QuotBack_b0  (a : List Int) (b : List Int) (c : List Int) : Option (Bool) :=
  Option.bind (liveF PUnit.unit) fun t =>
  bif !t then some false
  else
    Option.bind (boundedF (a, (1000 : Int))) fun t =>
      Option.bind (nNormF t) fun t =>
        Option.bind (boundedF (b, (1000 : Int))) fun t_1 =>
          Option.bind (zeroF t_1) fun t_2 =>
            bif t_2 then Option.bind (DivModF (t, t_1)) fun t => Option.bind (numF (Prod.snd t).2) fun t => some (decide (t = (30 : Int)))
            else
              Option.bind (boundedF (c, (1000 : Int))) fun t_3 =>
                Option.bind (DivModF (t_3, t_1)) fun t_4 =>
                  Option.bind (timesF (t, t_1, (Prod.snd t_4).1)) fun t_5 =>
                    Option.bind (DivModF (t_5.1, t_1)) fun t_6 =>
                      Option.bind (numF (Prod.snd t_4).2) fun t_7 =>
                        bif decide (t_7 = (0 : Int)) then
                          bif t_5.2 then
                            Option.bind (numF (Prod.snd t_6).2) fun t_8 =>
                              bif decide (t_8 = (0 : Int)) then
                                Option.bind (sameF (t_6.1, t)) fun t =>
                                  bif t then
                                    Option.bind (sameF ((Prod.snd t_6).1, (Prod.snd t_4).1)) fun t =>
                                      bif t then Option.bind (nCmpF ((Prod.snd t_4).1, t_1)) fun t => some (decide (t < (0 : Int))) else some false
                                  else some false
                              else some false
                          else some false
                        else some false
noncomputable def QuotBack_E : Env (dens [.bool]) := envOf S.tab [(85, mkF [] [.bool] liveF), (32, mkZ [.sl (.int .u64)] .u64 nNormF), (86, mkF [.sl (.int .u64), .int .i64] [.sl (.int .u64)] boundedF), (88, mkF [.sl (.int .u64)] [.bool] zeroF), (75, mkF [.sl (.int .u64), .sl (.int .u64)] [.sl (.int .u64), .sl (.int .u64), .int .i64] DivModF), (49, mkF [.int .i64] [.int .i64] numF), (89, mkF [.sl (.int .u64), .sl (.int .u64), .sl (.int .u64)] [.sl (.int .u64), .bool] timesF), (48, mkF [.sl (.int .u64), .sl (.int .u64)] [.bool] sameF), (33, mkF [.sl (.int .u64), .sl (.int .u64)] [.int .i64] nCmpF)] Go.Proofs.Try.f17 [6] [.bool]
theorem QuotBack_s0 (r : Rec (dens [.bool])) (a : List Int) (b : List Int) (c : List Int) : evT QuotBack_E QuotBack_h r 3000 false [.code (bodyOf Go.Proofs.Try.f17)] (T0 0 [.ints .u64 a, .ints .u64 b, .ints .u64 c]) [] = QuotBack_b0  a b c := by kernel_rfl
theorem QuotBack_ev (k : Nat) (a : List Int) (b : List Int) (c : List Int) : evM QuotBack_E QuotBack_h 3000 k [.code (bodyOf Go.Proofs.Try.f17)] (T0 0 [.ints .u64 a, .ints .u64 b, .ints .u64 c]) [] = QuotBack_b0  a b c := by
  exact QuotBack_s0 _ a b c

/-! ### plumb/plumblaw03.QuotPowers -/
def QuotPowers_h : Nat → Option Head := hintOf []
def QuotPowers_b0  (a : List Int) (b : Int) (c : Int) : Option (Bool) :=
  Option.bind (liveF PUnit.unit) fun t =>
  bif !t then some false
  else
    Option.bind (boundedF (a, (8 : Int))) fun t =>
      Option.bind (nNormF t) fun t =>
        Option.bind (withinF (b, (12 : Int))) fun t_1 =>
          Option.bind (withinF (c, (12 : Int))) fun t_2 =>
            Option.bind (qPowF (t, t_1)) fun t_3 =>
              Option.bind (qPowF (t, t_2)) fun t_4 =>
                Option.bind (qPowF (t, addI IntKind.i64 t_1 t_2)) fun t_5 =>
                  Option.bind (qPowF (t, (1 : Int))) fun t_6 =>
                    Option.bind (qPowF (t, (0 : Int))) fun t_7 =>
                      Option.bind (timesF (t_3.1, t_4.1, [])) fun t_8 =>
                        Option.bind (numF t_3.2) fun t_9 =>
                          bif !decide (t_9 = (0 : Int)) then some false
                          else
                            Option.bind (numF t_4.2) fun t_10 =>
                              bif !decide (t_10 = (0 : Int)) then some false
                              else
                                Option.bind (numF t_5.2) fun t_11 =>
                                  bif !decide (t_11 = (0 : Int)) then some false
                                  else
                                    Option.bind (numF t_6.2) fun t_12 =>
                                      bif !decide (t_12 = (0 : Int)) then some false
                                      else
                                        Option.bind (numF t_7.2) fun t_13 =>
                                          bif !decide (t_13 = (0 : Int)) then some false
                                          else
                                            bif !t_8.2 then some false
                                            else
                                              Option.bind (sameF (t_8.1, t_5.1)) fun t_14 =>
                                                bif !t_14 then some false
                                                else
                                                  Option.bind (sameF (t_6.1, t)) fun t_15 =>
                                                    bif !t_15 then some false
                                                    else
                                                      Option.bind (sameF (t_7.1, [(1 : Int)])) fun t_16 =>
                                                        bif !t_16 then some false
                                                        else
                                                          Option.bind (qPowF (t, subI IntKind.i64 (-1 : Int) t_1)) fun t_17 =>
                                                            Option.bind (qPowF (t, (4611686018427387904 : Int))) fun t_18 =>
                                                              Option.bind (nBitsF t) fun t_19 =>
                                                                bif decide (t_19 ≤ (1 : Int)) then
                                                                  Option.bind (numF t_17.2) fun t_20 =>
                                                                    bif decide (t_20 = (31 : Int)) then
                                                                      Option.bind (numF t_18.2) fun t_21 =>
                                                                        bif decide (t_21 = (0 : Int)) then Option.bind (sameF (t_18.1, t)) fun t => some t else some false
                                                                    else some false
                                                                else
                                                                  Option.bind (numF t_17.2) fun t =>
                                                                    bif decide (t = (31 : Int)) then
                                                                      Option.bind (numF t_18.2) fun t =>
                                                                        bif decide (t = (21 : Int)) then some (decide ((↑(List.length t_18.1) : Int) = (0 : Int))) else some false
                                                                    else some false
noncomputable def QuotPowers_E : Env (dens [.bool]) := envOf S.tab [(85, mkF [] [.bool] liveF), (32, mkZ [.sl (.int .u64)] .u64 nNormF), (86, mkF [.sl (.int .u64), .int .i64] [.sl (.int .u64)] boundedF), (91, mkF [.int .i64, .int .i64] [.int .i64] withinF), (46, mkF [.sl (.int .u64), .int .i64] [.sl (.int .u64), .int .i64] qPowF), (89, mkF [.sl (.int .u64), .sl (.int .u64), .sl (.int .u64)] [.sl (.int .u64), .bool] timesF), (49, mkF [.int .i64] [.int .i64] numF), (48, mkF [.sl (.int .u64), .sl (.int .u64)] [.bool] sameF), (43, mkF [.sl (.int .u64)] [.int .i64] nBitsF)] Go.Proofs.Try.f18 [6] [.bool]
theorem QuotPowers_s0 (r : Rec (dens [.bool])) (a : List Int) (b : Int) (c : Int) : evT QuotPowers_E QuotPowers_h r 3000 false [.code (bodyOf Go.Proofs.Try.f18)] (T0 0 [.ints .u64 a, .int .i64 b, .int .i64 c]) [] = QuotPowers_b0  a b c := by kernel_rfl
theorem QuotPowers_ev (k : Nat) (a : List Int) (b : Int) (c : Int) : evM QuotPowers_E QuotPowers_h 3000 k [.code (bodyOf Go.Proofs.Try.f18)] (T0 0 [.ints .u64 a, .int .i64 b, .int .i64 c]) [] = QuotPowers_b0  a b c := by
  exact QuotPowers_s0 _ a b c

/-! ### plumb/plumblaw03.QuotSquares -/
def QuotSquares_h : Nat → Option Head := hintOf []
def QuotSquares_b0  (a : List Int) : Option (Bool) :=
  Option.bind (liveF PUnit.unit) fun t =>
  bif !t then some false
  else
    Option.bind (boundedF (a, (500 : Int))) fun t =>
      Option.bind (RootF t) fun t_1 =>
        Option.bind (timesF (t_1.1, t_1.1, [])) fun t_2 =>
          Option.bind (nAddF (t_1.1, [(1 : Int)])) fun t_3 =>
            Option.bind (timesF (t_3.1, t_3.1, [])) fun t_4 =>
              bif !t_2.2 then some false
              else
                bif !t_4.2 then some false
                else
                  Option.bind (numF t_3.2) fun t_5 =>
                    bif !decide (t_5 = (0 : Int)) then some false
                    else
                      Option.bind (normalF t_1.1) fun t_6 =>
                        bif !t_6 then some false
                        else
                          Option.bind (nCmpF (t_2.1, t)) fun t_7 =>
                            bif decide (t_7 > (0 : Int)) then some false
                            else
                              Option.bind (nCmpF (t_4.1, t)) fun t_8 =>
                                bif decide (t_8 ≤ (0 : Int)) then some false
                                else
                                  Option.bind (nCmpF (t_2.1, t)) fun t_9 =>
                                    bif !decide (t_1.2 = decide (t_9 = (0 : Int))) then some false
                                    else
                                      Option.bind (timesF (t, t, [])) fun t_10 =>
                                        Option.bind (RootF t_10.1) fun t_11 =>
                                          Option.bind (timesF (t, t, [(1 : Int)])) fun t_12 =>
                                            Option.bind (RootF t_12.1) fun t_13 =>
                                              bif !t_10.2 then some false
                                              else
                                                bif !t_12.2 then some false
                                                else
                                                  bif !t_11.2 then some false
                                                  else
                                                    Option.bind (nCmpF (t_11.1, t)) fun t_14 =>
                                                      bif !decide (t_14 = (0 : Int)) then some false
                                                      else
                                                        Option.bind (nCmpF (t_13.1, t)) fun t_15 =>
                                                          bif decide (t_15 < (0 : Int)) then some false
                                                          else
                                                            Option.bind (zeroF t) fun t_16 =>
                                                              bif t_16 then some true else bif !t_13.2 then Option.bind (nCmpF (t_13.1, t)) fun t => some (decide (t = (0 : Int))) else some false
noncomputable def QuotSquares_E : Env (dens [.bool]) := envOf S.tab [(85, mkF [] [.bool] liveF), (86, mkF [.sl (.int .u64), .int .i64] [.sl (.int .u64)] boundedF), (83, mkF [.sl (.int .u64)] [.sl (.int .u64), .bool] RootF), (89, mkF [.sl (.int .u64), .sl (.int .u64), .sl (.int .u64)] [.sl (.int .u64), .bool] timesF), (40, mkF [.sl (.int .u64), .sl (.int .u64)] [.sl (.int .u64), .int .i64] nAddF), (49, mkF [.int .i64] [.int .i64] numF), (90, mkF [.sl (.int .u64)] [.bool] normalF), (33, mkF [.sl (.int .u64), .sl (.int .u64)] [.int .i64] nCmpF), (88, mkF [.sl (.int .u64)] [.bool] zeroF)] Go.Proofs.Try.f19 [2] [.bool]
theorem QuotSquares_s0 (r : Rec (dens [.bool])) (a : List Int) : evT QuotSquares_E QuotSquares_h r 3000 false [.code (bodyOf Go.Proofs.Try.f19)] (T0 0 [.ints .u64 a]) [] = QuotSquares_b0  a := by kernel_rfl
theorem QuotSquares_ev (k : Nat) (a : List Int) : evM QuotSquares_E QuotSquares_h 3000 k [.code (bodyOf Go.Proofs.Try.f19)] (T0 0 [.ints .u64 a]) [] = QuotSquares_b0  a := by
  exact QuotSquares_s0 _ a

/-! ### plumb/plumblaw03.QuotCommon -/
def QuotCommon_h : Nat → Option Head := hintOf []
def QuotCommon_b0  (a : List Int) (b : List Int) (c : List Int) : Option (Bool) :=
  Option.bind (liveF PUnit.unit) fun t =>
  bif !t then some false
  else
    Option.bind (boundedF (a, (200 : Int))) fun t =>
      Option.bind (boundedF (b, (200 : Int))) fun t_1 =>
        Option.bind (timesF (t, t_1, [])) fun t_2 =>
          Option.bind (boundedF (c, (200 : Int))) fun t_3 =>
            Option.bind (timesF (t, t_3, [])) fun t_4 =>
              Option.bind (GcdF (t_2.1, t_4.1)) fun t_5 =>
                bif !t_2.2 then some false
                else
                  bif !t_4.2 then some false
                  else
                    Option.bind (normalF t_5) fun t_6 =>
                      bif !t_6 then some false
                      else
                        Option.bind (GcdF (t_4.1, t_2.1)) fun t_7 =>
                          Option.bind (sameF (t_5, t_7)) fun t_8 =>
                            bif !t_8 then some false
                            else
                              Option.bind (zeroF t_2.1) fun t_9 =>
                                bif t_9 then
                                  Option.bind (zeroF t_4.1) fun t_10 =>
                                    bif t_10 then some (decide ((↑(List.length t_5) : Int) = (0 : Int)))
                                    else
                                      Option.bind (zeroF t_5) fun t_11 =>
                                        bif t_11 then some false
                                        else
                                          Option.bind (dividesF (t_5, t_2.1)) fun t_12 =>
                                            bif !t_12 then some false
                                            else
                                              Option.bind (dividesF (t_5, t_4.1)) fun t_13 =>
                                                bif !t_13 then some false
                                                else
                                                  Option.bind (dividesF (t, t_5)) fun t =>
                                                    bif !t then some false
                                                    else
                                                      Option.bind (LowestF (t_2.1, t_4.1)) fun t =>
                                                        Option.bind (timesF (t.1, t_5, [])) fun t_14 =>
                                                          Option.bind (timesF (t.2, t_5, [])) fun t_15 =>
                                                            bif !t_14.2 then some false
                                                            else
                                                              bif !t_15.2 then some false
                                                              else
                                                                Option.bind (nCmpF (t_14.1, t_2.1)) fun t_16 =>
                                                                  bif !decide (t_16 = (0 : Int)) then some false
                                                                  else
                                                                    Option.bind (nCmpF (t_15.1, t_4.1)) fun t_17 =>
                                                                      bif !decide (t_17 = (0 : Int)) then some false
                                                                      else
                                                                        Option.bind (GcdF (t.1, t.2)) fun t =>
                                                                          Option.bind (nFromF (1 : Int)) fun t_18 =>
                                                                            Option.bind (nCmpF (t, t_18)) fun t =>
                                                                              bif !decide (t = (0 : Int)) then some false
                                                                              else
                                                                                Option.bind (zeroF t_4.1) fun t =>
                                                                                  bif t then Option.bind (nCmpF (t_5, t_2.1)) fun t => some (decide (t = (0 : Int)))
                                                                                  else
                                                                                    Option.bind (DivModF (t_2.1, t_4.1)) fun t =>
                                                                                      Option.bind (numF (Prod.snd t).2) fun t_19 =>
                                                                                        bif decide (t_19 = (0 : Int)) then
                                                                                          Option.bind (GcdF (t_4.1, (Prod.snd t).1)) fun t => Option.bind (sameF (t, t_5)) fun t => some t
                                                                                        else some false
                                else
                                  Option.bind (zeroF t_5) fun t_10 =>
                                    bif t_10 then some false
                                    else
                                      Option.bind (dividesF (t_5, t_2.1)) fun t_11 =>
                                        bif !t_11 then some false
                                        else
                                          Option.bind (dividesF (t_5, t_4.1)) fun t_12 =>
                                            bif !t_12 then some false
                                            else
                                              Option.bind (dividesF (t, t_5)) fun t =>
                                                bif !t then some false
                                                else
                                                  Option.bind (LowestF (t_2.1, t_4.1)) fun t =>
                                                    Option.bind (timesF (t.1, t_5, [])) fun t_13 =>
                                                      Option.bind (timesF (t.2, t_5, [])) fun t_14 =>
                                                        bif !t_13.2 then some false
                                                        else
                                                          bif !t_14.2 then some false
                                                          else
                                                            Option.bind (nCmpF (t_13.1, t_2.1)) fun t_15 =>
                                                              bif !decide (t_15 = (0 : Int)) then some false
                                                              else
                                                                Option.bind (nCmpF (t_14.1, t_4.1)) fun t_16 =>
                                                                  bif !decide (t_16 = (0 : Int)) then some false
                                                                  else
                                                                    Option.bind (GcdF (t.1, t.2)) fun t =>
                                                                      Option.bind (nFromF (1 : Int)) fun t_17 =>
                                                                        Option.bind (nCmpF (t, t_17)) fun t =>
                                                                          bif !decide (t = (0 : Int)) then some false
                                                                          else
                                                                            Option.bind (zeroF t_4.1) fun t =>
                                                                              bif t then Option.bind (nCmpF (t_5, t_2.1)) fun t => some (decide (t = (0 : Int)))
                                                                              else
                                                                                Option.bind (DivModF (t_2.1, t_4.1)) fun t =>
                                                                                  Option.bind (numF (Prod.snd t).2) fun t_18 =>
                                                                                    bif decide (t_18 = (0 : Int)) then
                                                                                      Option.bind (GcdF (t_4.1, (Prod.snd t).1)) fun t => Option.bind (sameF (t, t_5)) fun t => some t
                                                                                    else some false
noncomputable def QuotCommon_E : Env (dens [.bool]) := envOf S.tab [(85, mkF [] [.bool] liveF), (86, mkF [.sl (.int .u64), .int .i64] [.sl (.int .u64)] boundedF), (89, mkF [.sl (.int .u64), .sl (.int .u64), .sl (.int .u64)] [.sl (.int .u64), .bool] timesF), (79, mkF [.sl (.int .u64), .sl (.int .u64)] [.sl (.int .u64)] GcdF), (90, mkF [.sl (.int .u64)] [.bool] normalF), (48, mkF [.sl (.int .u64), .sl (.int .u64)] [.bool] sameF), (88, mkF [.sl (.int .u64)] [.bool] zeroF), (92, mkF [.sl (.int .u64), .sl (.int .u64)] [.bool] dividesF), (81, mkF [.sl (.int .u64), .sl (.int .u64)] [.sl (.int .u64), .sl (.int .u64)] LowestF), (33, mkF [.sl (.int .u64), .sl (.int .u64)] [.int .i64] nCmpF), (62, mkF [.int .u64] [.sl (.int .u64)] nFromF), (75, mkF [.sl (.int .u64), .sl (.int .u64)] [.sl (.int .u64), .sl (.int .u64), .int .i64] DivModF), (49, mkF [.int .i64] [.int .i64] numF)] Go.Proofs.Try.f20 [6] [.bool]
theorem QuotCommon_s0 (r : Rec (dens [.bool])) (a : List Int) (b : List Int) (c : List Int) : evT QuotCommon_E QuotCommon_h r 3000 false [.code (bodyOf Go.Proofs.Try.f20)] (T0 0 [.ints .u64 a, .ints .u64 b, .ints .u64 c]) [] = QuotCommon_b0  a b c := by kernel_rfl
theorem QuotCommon_ev (k : Nat) (a : List Int) (b : List Int) (c : List Int) : evM QuotCommon_E QuotCommon_h 3000 k [.code (bodyOf Go.Proofs.Try.f20)] (T0 0 [.ints .u64 a, .ints .u64 b, .ints .u64 c]) [] = QuotCommon_b0  a b c := by
  exact QuotCommon_s0 _ a b c

end
end Go.RX.S
