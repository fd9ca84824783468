/- What functions compute, printed. -/
import Derived.Test.YtciapojlnhiggaaGreatZWj
import Derived.Test.YtciapojlnhiggaaGreatZSp
set_option linter.unusedVariables false
set_option linter.unusedSimpArgs false
namespace Go.RX.S
open Go Go.RX Go.Proofs
noncomputable section
def fld_h : Nat → Option Head := hintOf []
def fld_b0  (a : Int) : Option (Int × Int) :=
  some (cvI .i64 (andI .u64 (shrI .u64 a (52 : Int)) (2047 : Int)), andI .u64 a (4503599627370495 : Int))
noncomputable def fld_E : Env (dens [.int .i64, .int .u64]) := envOf S.tab [] Tryz.f96 [2, 3] [.int .i64, .int .u64]
theorem fld_s0 (r : Rec (dens [.int .i64, .int .u64])) (a : Int) : evT fld_E fld_h r 3000 false [.code (bodyOf Tryz.f96)] (T0 0 [.int .u64 a]) [] = fld_b0  a := by kernel_rfl
theorem fld_ev (k : Nat) (a : Int) : evM fld_E fld_h 3000 k [.code (bodyOf Tryz.f96)] (T0 0 [.int .u64 a]) [] = fld_b0  a := by
  exact fld_s0 _ a
def cls_h : Nat → Option Head := hintOf []
def cls_b0  (a : Int) : Option (Int) :=
  Option.bind (fldF a) fun t =>
  bif decide (t.1 = (0 : Int)) then
    bif decide (t.2 = (0 : Int)) then some (0 : Int)
    else bif decide (t.1 = (0 : Int)) then some (1 : Int) else bif decide (t.1 < (2047 : Int)) then some (2 : Int) else bif decide (t.2 = (0 : Int)) then some (3 : Int) else some (4 : Int)
  else bif decide (t.1 = (0 : Int)) then some (1 : Int) else bif decide (t.1 < (2047 : Int)) then some (2 : Int) else bif decide (t.2 = (0 : Int)) then some (3 : Int) else some (4 : Int)
noncomputable def cls_E : Env (dens [.int .i64]) := envOf S.tab [(96, mkF [.int .u64] [.int .i64, .int .u64] fldF)] Tryz.f97 [2] [.int .i64]
theorem cls_s0 (r : Rec (dens [.int .i64])) (a : Int) : evT cls_E cls_h r 3000 false [.code (bodyOf Tryz.f97)] (T0 0 [.int .u64 a]) [] = cls_b0  a := by kernel_rfl
theorem cls_ev (k : Nat) (a : Int) : evM cls_E cls_h 3000 k [.code (bodyOf Tryz.f97)] (T0 0 [.int .u64 a]) [] = cls_b0  a := by
  exact cls_s0 _ a
def spl_h : Nat → Option Head := hintOf []
def spl_b0  (a : Int) : Option (Bool × Int × Int × Int) :=
  Option.bind (fldF a) fun t =>
  Option.bind (clsF a) fun t_1 =>
    bif decide (t_1 = (0 : Int)) then some (!decide (andI .u64 a (9223372036854775808 : Int) = (0 : Int)), t.2, (-1074 : Int), (0 : Int))
    else
      bif decide (t_1 = (1 : Int)) then some (!decide (andI .u64 a (9223372036854775808 : Int) = (0 : Int)), t.2, (-1074 : Int), (0 : Int))
      else
        bif decide (t_1 = (2 : Int)) then
          some (!decide (andI .u64 a (9223372036854775808 : Int) = (0 : Int)), orI .u64 (4503599627370496 : Int) t.2, subI .i64 t.1 (1075 : Int), (0 : Int))
        else some (false, (0 : Int), (0 : Int), (60 : Int))
noncomputable def spl_E : Env (dens [.bool, .int .u64, .int .i64, .int .i64]) := envOf S.tab [(96, mkF [.int .u64] [.int .i64, .int .u64] fldF), (97, mkF [.int .u64] [.int .i64] clsF)] Tryz.f75 [2, 3, 4, 5] [.bool, .int .u64, .int .i64, .int .i64]
theorem spl_s0 (r : Rec (dens [.bool, .int .u64, .int .i64, .int .i64])) (a : Int) : evT spl_E spl_h r 3000 false [.code (bodyOf Tryz.f75)] (T0 0 [.int .u64 a]) [] = spl_b0  a := by kernel_rfl
theorem spl_ev (k : Nat) (a : Int) : evM spl_E spl_h 3000 k [.code (bodyOf Tryz.f75)] (T0 0 [.int .u64 a]) [] = spl_b0  a := by
  exact spl_s0 _ a
def raNormal_h : Nat → Option Head := hintOf []
def raNormal_b0  (a : List Int) : Option (Bool) :=
  bif decide ((↑(List.length a) : Int) ≤ (4096 : Int)) then
  bif decide ((↑(List.length a) : Int) = (0 : Int)) then some true
  else bif inRange (subI .i64 (↑(List.length a) : Int) (1 : Int)) (List.length a) then some !decide (rdI a (subI .i64 (↑(List.length a) : Int) (1 : Int)) = (0 : Int)) else none
else some false
noncomputable def raNormal_E : Env (dens [.bool]) := envOf S.tab [] Tryz.f103 [2] [.bool]
theorem raNormal_s0 (r : Rec (dens [.bool])) (a : List Int) : evT raNormal_E raNormal_h r 3000 false [.code (bodyOf Tryz.f103)] (T0 0 [.ints .u64 a]) [] = raNormal_b0  a := by kernel_rfl
theorem raNormal_ev (k : Nat) (a : List Int) : evM raNormal_E raNormal_h 3000 k [.code (bodyOf Tryz.f103)] (T0 0 [.ints .u64 a]) [] = raNormal_b0  a := by
  exact raNormal_s0 _ a
def raCheck_h : Nat → Option Head := hintOf []
def raCheck_b0  (a : List AV) : Option (Int) :=
  Option.bind (raNormalF (AV.asInts (aget a 1))) fun t =>
  bif !t then some (51 : Int)
  else
    Option.bind (raNormalF (AV.asInts (aget a 2))) fun t =>
      bif !t then some (51 : Int)
      else
        bif decide ((↑(List.length (AV.asInts (aget a 2))) : Int) = (0 : Int)) then some (51 : Int)
        else
          bif AV.toBool (aget a 0) then
            bif decide ((↑(List.length (AV.asInts (aget a 1))) : Int) = (0 : Int)) then some (51 : Int)
            else
              Option.bind (GcdF (AV.asInts (aget a 1), AV.asInts (aget a 2))) fun t =>
                Option.bind (nWordF t) fun t => bif !t.2 then some (51 : Int) else bif !decide (t.1 = (1 : Int)) then some (51 : Int) else some (0 : Int)
          else
            Option.bind (GcdF (AV.asInts (aget a 1), AV.asInts (aget a 2))) fun t =>
              Option.bind (nWordF t) fun t => bif !t.2 then some (51 : Int) else bif !decide (t.1 = (1 : Int)) then some (51 : Int) else some (0 : Int)
noncomputable def raCheck_E : Env (dens [.int .i64]) := envOf S.tab [(103, mkF [.sl (.int .u64)] [.bool] raNormalF), (104, mkF [.sl (.int .u64)] [.int .u64, .bool] nWordF), (105, mkF [.sl (.int .u64), .sl (.int .u64)] [.sl (.int .u64)] GcdF)] Tryz.f82 [2] [.int .i64]
theorem raCheck_s0 (r : Rec (dens [.int .i64])) (a : List AV) : evT raCheck_E raCheck_h r 3000 false [.code (bodyOf Tryz.f82)] (T0 0 [.agg (etaL [.bool, .sl (.int .u64), .sl (.int .u64)] 0 a)]) [] = raCheck_b0  a := by kernel_rfl
theorem raCheck_ev (k : Nat) (a : List AV) : evM raCheck_E raCheck_h 3000 k [.code (bodyOf Tryz.f82)] (T0 0 [.agg (etaL [.bool, .sl (.int .u64), .sl (.int .u64)] 0 a)]) [] = raCheck_b0  a := by
  exact raCheck_s0 _ a
def raInt_h : Nat → Option Head := hintOf []
def raInt_b0  (a : Int) : Option (List AV) :=
  bif decide (a < (0 : Int)) then
  Option.bind (nFromF (subI .u64 (0 : Int) (cvI .u64 a))) fun t => Option.bind (nFromF (1 : Int)) fun t_1 => some [AV.bool true, AV.ints .u64 t, AV.ints .u64 t_1]
else Option.bind (nFromF (cvI .u64 a)) fun t => Option.bind (nFromF (1 : Int)) fun t_1 => some [AV.bool false, AV.ints .u64 t, AV.ints .u64 t_1]
noncomputable def raInt_E : Env (dens [.st [.bool, .sl (.int .u64), .sl (.int .u64)]]) := envR S.tab [(76, mkF [.int .u64] [.sl (.int .u64)] nFromF)] Tryz.f65 [.cell 2 34] [.st [.bool, .sl (.int .u64), .sl (.int .u64)]]
theorem raInt_s0 (r : Rec (dens [.st [.bool, .sl (.int .u64), .sl (.int .u64)]])) (a : Int) : evT raInt_E raInt_h r 3000 false [.code (bodyOf Tryz.f65)] (T0 0 [.int .i64 a]) [] = raInt_b0  a := by kernel_rfl
theorem raInt_ev (k : Nat) (a : Int) : evM raInt_E raInt_h 3000 k [.code (bodyOf Tryz.f65)] (T0 0 [.int .i64 a]) [] = raInt_b0  a := by
  exact raInt_s0 _ a
def raTurned_h : Nat → Option Head := hintOf []
def raTurned_b0  (a : List AV) : Option (List AV) :=
  bif !AV.toBool (aget a 0) then
  some
    [AV.bool (decide ((↑(List.length (AV.asInts (aget a 1))) : Int) > (0 : Int))), AV.ints .u64 (AV.asInts (aget a 1)), AV.ints .u64 (AV.asInts (aget a 2))]
else some [AV.bool false, AV.ints .u64 (AV.asInts (aget a 1)), AV.ints .u64 (AV.asInts (aget a 2))]
noncomputable def raTurned_E : Env (dens [.st [.bool, .sl (.int .u64), .sl (.int .u64)]]) := envR S.tab [] Tryz.f83 [.cell 2 34] [.st [.bool, .sl (.int .u64), .sl (.int .u64)]]
theorem raTurned_s0 (r : Rec (dens [.st [.bool, .sl (.int .u64), .sl (.int .u64)]])) (a : List AV) : evT raTurned_E raTurned_h r 3000 false [.code (bodyOf Tryz.f83)] (T0 0 [.agg (etaL [.bool, .sl (.int .u64), .sl (.int .u64)] 0 a)]) [] = raTurned_b0  a := by kernel_rfl
theorem raTurned_ev (k : Nat) (a : List AV) : evM raTurned_E raTurned_h 3000 k [.code (bodyOf Tryz.f83)] (T0 0 [.agg (etaL [.bool, .sl (.int .u64), .sl (.int .u64)] 0 a)]) [] = raTurned_b0  a := by
  exact raTurned_s0 _ a
def raLowest_h : Nat → Option Head := hintOf []
def raLowest_b0  (a : Bool) (b : List Int) (c : List Int) : Option (List AV) :=
  Option.bind (LowestF (b, c)) fun t =>
  bif a then some [AV.bool (decide ((↑(List.length t.1) : Int) > (0 : Int))), AV.ints .u64 t.1, AV.ints .u64 t.2]
  else some [AV.bool false, AV.ints .u64 t.1, AV.ints .u64 t.2]
noncomputable def raLowest_E : Env (dens [.st [.bool, .sl (.int .u64), .sl (.int .u64)]]) := envR S.tab [(107, mkF [.sl (.int .u64), .sl (.int .u64)] [.sl (.int .u64), .sl (.int .u64)] LowestF)] Tryz.f86 [.cell 6 34] [.st [.bool, .sl (.int .u64), .sl (.int .u64)]]
theorem raLowest_s0 (r : Rec (dens [.st [.bool, .sl (.int .u64), .sl (.int .u64)]])) (a : Bool) (b : List Int) (c : List Int) : evT raLowest_E raLowest_h r 3000 false [.code (bodyOf Tryz.f86)] (T0 0 [.bool a, .ints .u64 b, .ints .u64 c]) [] = raLowest_b0  a b c := by kernel_rfl
theorem raLowest_ev (k : Nat) (a : Bool) (b : List Int) (c : List Int) : evM raLowest_E raLowest_h 3000 k [.code (bodyOf Tryz.f86)] (T0 0 [.bool a, .ints .u64 b, .ints .u64 c]) [] = raLowest_b0  a b c := by
  exact raLowest_s0 _ a b c
def raNew_h : Nat → Option Head := hintOf []
def raNew_b0  (a : Bool) (b : List Int) (c : List Int) : Option (List AV × Int) :=
  Option.bind (nNormF b) fun t =>
  Option.bind (nNormF c) fun t_1 =>
    bif decide ((↑(List.length t_1) : Int) = (0 : Int)) then some ([AV.bool false, AV.ints .u64 [], AV.ints .u64 []], (50 : Int))
    else
      bif decide ((↑(List.length t) : Int) > (4096 : Int)) then some ([AV.bool false, AV.ints .u64 [], AV.ints .u64 []], (21 : Int))
      else
        bif decide ((↑(List.length t_1) : Int) > (4096 : Int)) then some ([AV.bool false, AV.ints .u64 [], AV.ints .u64 []], (21 : Int))
        else
          Option.bind (raLowestF (a, t, t_1)) fun t =>
            some ([AV.bool (AV.toBool (aget t 0)), AV.ints .u64 (AV.asInts (aget t 1)), AV.ints .u64 (AV.asInts (aget t 2))], (0 : Int))
noncomputable def raNew_E : Env (dens [.st [.bool, .sl (.int .u64), .sl (.int .u64)], .int .i64]) := envR S.tab [(98, mkF [.sl (.int .u64)] [.sl (.int .u64)] nNormF), (86, mkF [.bool, .sl (.int .u64), .sl (.int .u64)] [.st [.bool, .sl (.int .u64), .sl (.int .u64)]] raLowestF)] Tryz.f78 [.cell 6 34, .tmp 7] [.st [.bool, .sl (.int .u64), .sl (.int .u64)], .int .i64]
theorem raNew_s0 (r : Rec (dens [.st [.bool, .sl (.int .u64), .sl (.int .u64)], .int .i64])) (a : Bool) (b : List Int) (c : List Int) : evT raNew_E raNew_h r 3000 false [.code (bodyOf Tryz.f78)] (T0 0 [.bool a, .ints .u64 b, .ints .u64 c]) [] = raNew_b0  a b c := by kernel_rfl
theorem raNew_ev (k : Nat) (a : Bool) (b : List Int) (c : List Int) : evM raNew_E raNew_h 3000 k [.code (bodyOf Tryz.f78)] (T0 0 [.bool a, .ints .u64 b, .ints .u64 c]) [] = raNew_b0  a b c := by
  exact raNew_s0 _ a b c
def raFits_h : Nat → Option Head := hintOf []
def raFits_b0  (a : List Int) (b : Int) : Option (List Int) :=
  bif !decide (b = (0 : Int)) then none else some a
noncomputable def raFits_E : Env (dens [.sl (.int .u64)]) := envOf S.tab [] Tryz.f89 [4] [.sl (.int .u64)]
theorem raFits_s0 (r : Rec (dens [.sl (.int .u64)])) (a : List Int) (b : Int) : evT raFits_E raFits_h r 3000 false [.code (bodyOf Tryz.f89)] (T0 0 [.ints .u64 a, .int .i64 b]) [] = raFits_b0  a b := by kernel_rfl
theorem raFits_ev (k : Nat) (a : List Int) (b : Int) : evM raFits_E raFits_h 3000 k [.code (bodyOf Tryz.f89)] (T0 0 [.ints .u64 a, .int .i64 b]) [] = raFits_b0  a b := by
  exact raFits_s0 _ a b
def raMuln_h : Nat → Option Head := hintOf []
def raMuln_b0  (a : List Int) (b : List Int) : Option (List Int) :=
  Option.bind (nMulF (a, b)) fun t => Option.bind (raFitsF (t.1, t.2)) fun t => some t
noncomputable def raMuln_E : Env (dens [.sl (.int .u64)]) := envOf S.tab [(108, mkF [.sl (.int .u64), .sl (.int .u64)] [.sl (.int .u64), .int .i64] nMulF), (89, mkF [.sl (.int .u64), .int .i64] [.sl (.int .u64)] raFitsF)] Tryz.f87 [4] [.sl (.int .u64)]
theorem raMuln_s0 (r : Rec (dens [.sl (.int .u64)])) (a : List Int) (b : List Int) : evT raMuln_E raMuln_h r 3000 false [.code (bodyOf Tryz.f87)] (T0 0 [.ints .u64 a, .ints .u64 b]) [] = raMuln_b0  a b := by kernel_rfl
theorem raMuln_ev (k : Nat) (a : List Int) (b : List Int) : evM raMuln_E raMuln_h 3000 k [.code (bodyOf Tryz.f87)] (T0 0 [.ints .u64 a, .ints .u64 b]) [] = raMuln_b0  a b := by
  exact raMuln_s0 _ a b
def nz1_h : Nat → Option Head := hintOf []
def nz1_b0  (a : Int) : Option (Bool) :=
  some !decide (a = (0 : Int))
noncomputable def nz1_E : Env (dens [.bool]) := envOf S.tab [] Tryz.f57 [2] [.bool]
theorem nz1_s0 (r : Rec (dens [.bool])) (a : Int) : evT nz1_E nz1_h r 3000 false [.code (bodyOf Tryz.f57)] (T0 0 [.int .u64 a]) [] = nz1_b0  a := by kernel_rfl
theorem nz1_ev (k : Nat) (a : Int) : evM nz1_E nz1_h 3000 k [.code (bodyOf Tryz.f57)] (T0 0 [.int .u64 a]) [] = nz1_b0  a := by
  exact nz1_s0 _ a
def idx_h : Nat → Option Head := hintOf [(4, ⟨[(0, .same), (1, .same), (7, .same), (8, .same)], 0⟩)]
def idx_b0 (l4 : List Int → Int → Int → Option Int) (a : List Int) (b : AV) : Option (Int) :=
  l4 a (↑(List.length a) : Int) (0 : Int)
def idx_b4 (l4 : List Int → Int → Int → Option Int) (t0 : List Int) (t7 : Int) (t8 : Int) : Option (Int) :=
  bif decide (t8 < t7) then bif inRange t8 (List.length t0) then Option.bind (nz1F (rdI t0 t8)) fun t => bif t then some t8 else l4 t0 t7 (addI .i64 t8 (1 : Int)) else none else some (-1 : Int)
mutual
def idx_L4 : Nat → (List Int) → Int → Int → Option (Int)
  | 0, _, _, _ => none
  | k + 1, t0, t7, t8 => idx_b4 (idx_L4 k) t0 t7 t8
end
noncomputable def idx_E : Env (dens [.int .i64]) := envOf S.tab [(57, mkF [.int .u64] [.bool] nz1F)] Tryz.f79 [4] [.int .i64]
theorem idx_s0 (r : Rec (dens [.int .i64])) (a : List Int) (b : AV) : evT idx_E idx_h r 3000 false [.code (bodyOf Tryz.f79)] (T0 0 [.ints .u64 a, .fn 57]) [] = idx_b0 (fun t0 t7 t8 => r (todoOf 4 (bodyOf Tryz.f79)) [(0, AV.ints .u64 t0), (1, AV.fn 57), (7, AV.int .i64 t7), (8, AV.int .i64 t8)] []) a b := by kernel_rfl
theorem idx_s4 (r : Rec (dens [.int .i64])) (t0 : List Int) (t7 : Int) (t8 : Int) : evT idx_E idx_h r 3000 true (todoOf 4 (bodyOf Tryz.f79)) [(0, AV.ints .u64 t0), (1, AV.fn 57), (7, AV.int .i64 t7), (8, AV.int .i64 t8)] [] = idx_b4 (fun t0 t7 t8 => r (todoOf 4 (bodyOf Tryz.f79)) [(0, AV.ints .u64 t0), (1, AV.fn 57), (7, AV.int .i64 t7), (8, AV.int .i64 t8)] []) t0 t7 t8 := by kernel_rfl
theorem idx_k : ∀ k, (∀ (t0 : List Int) (t7 : Int) (t8 : Int), evK idx_E idx_h 3000 k (todoOf 4 (bodyOf Tryz.f79)) [(0, AV.ints .u64 t0), (1, AV.fn 57), (7, AV.int .i64 t7), (8, AV.int .i64 t8)] [] = idx_L4 k t0 t7 t8)
  | 0 => by
    refine ?_ <;> intros <;> rfl
  | k + 1 => by
    have ih := idx_k k
    refine ?_ <;> intros
    · exact ((idx_s4 _ _ _ _).trans (by simp only [ih] <;> rfl))
theorem idx_ev (k : Nat) (a : List Int) (b : AV) : evM idx_E idx_h 3000 k [.code (bodyOf Tryz.f79)] (T0 0 [.ints .u64 a, .fn 57]) [] = idx_b0 (idx_L4 k) a b := by
  refine (idx_s0 _ a b).trans ?_
  simp only [idx_k k] <;> rfl
def anyf_h : Nat → Option Head := hintOf []
def anyf_b0  (a : List Int) (b : AV) : Option (Bool) :=
  Option.bind (idxF (a, AV.fn 57)) fun t => some (decide (t ≥ (0 : Int)))
noncomputable def anyf_E : Env (dens [.bool]) := envOf S.tab [(79, mkF [.sl (.int .u64), .opq 1] [.int .i64] idxF)] Tryz.f56 [4] [.bool]
theorem anyf_s0 (r : Rec (dens [.bool])) (a : List Int) (b : AV) : evT anyf_E anyf_h r 3000 false [.code (bodyOf Tryz.f56)] (T0 0 [.ints .u64 a, .fn 57]) [] = anyf_b0  a b := by kernel_rfl
theorem anyf_ev (k : Nat) (a : List Int) (b : AV) : evM anyf_E anyf_h 3000 k [.code (bodyOf Tryz.f56)] (T0 0 [.ints .u64 a, .fn 57]) [] = anyf_b0  a b := by
  exact anyf_s0 _ a b
def raSign_h : Nat → Option Head := hintOf []
def raSign_b0  (a : List AV) : Option (Int) :=
  Option.bind (anyfF (AV.asInts (aget a 1), AV.fn 57)) fun t => bif !t then some (0 : Int) else bif AV.toBool (aget a 0) then some (-1 : Int) else some (1 : Int)
noncomputable def raSign_E : Env (dens [.int .i64]) := envOf S.tab [(56, mkF [.sl (.int .u64), .opq 1] [.bool] anyfF)] Tryz.f25 [2] [.int .i64]
theorem raSign_s0 (r : Rec (dens [.int .i64])) (a : List AV) : evT raSign_E raSign_h r 3000 false [.code (bodyOf Tryz.f25)] (T0 0 [.agg (etaL [.bool, .sl (.int .u64), .sl (.int .u64)] 0 a)]) [] = raSign_b0  a := by kernel_rfl
theorem raSign_ev (k : Nat) (a : List AV) : evM raSign_E raSign_h 3000 k [.code (bodyOf Tryz.f25)] (T0 0 [.agg (etaL [.bool, .sl (.int .u64), .sl (.int .u64)] 0 a)]) [] = raSign_b0  a := by
  exact raSign_s0 _ a
def raAdd1_h : Nat → Option Head := hintOf []
def raAdd1_b0  (a : List AV) (b : List AV) : Option (List AV × List AV × List AV) :=
  Option.bind (raMulnF (AV.asInts (aget a 1), AV.asInts (aget b 2))) fun t =>
  Option.bind (raMulnF (AV.asInts (aget b 1), AV.asInts (aget a 2))) fun t_1 =>
    Option.bind (raMulnF (AV.asInts (aget a 2), AV.asInts (aget b 2))) fun t_2 =>
      bif decide (AV.toBool (aget a 0) = AV.toBool (aget b 0)) then
        bif AV.toBool (aget a 0) then
          Option.bind (nAddF (t, t_1)) fun t =>
            Option.bind (raFitsF (t.1, t.2)) fun t =>
              Option.bind (raLowestF (true, t, t_2)) fun t =>
                some
                  ([AV.bool (AV.toBool (aget a 0)), AV.ints .u64 (AV.asInts (aget a 1)), AV.ints .u64 (AV.asInts (aget a 2))],
                    [AV.bool (AV.toBool (aget b 0)), AV.ints .u64 (AV.asInts (aget b 1)), AV.ints .u64 (AV.asInts (aget b 2))],
                    [AV.bool (AV.toBool (aget t 0)), AV.ints .u64 (AV.asInts (aget t 1)), AV.ints .u64 (AV.asInts (aget t 2))])
        else
          Option.bind (nAddF (t, t_1)) fun t =>
            Option.bind (raFitsF (t.1, t.2)) fun t =>
              Option.bind (raLowestF (AV.toBool (aget b 0), t, t_2)) fun t =>
                some
                  ([AV.bool (AV.toBool (aget a 0)), AV.ints .u64 (AV.asInts (aget a 1)), AV.ints .u64 (AV.asInts (aget a 2))],
                    [AV.bool (AV.toBool (aget b 0)), AV.ints .u64 (AV.asInts (aget b 1)), AV.ints .u64 (AV.asInts (aget b 2))],
                    [AV.bool (AV.toBool (aget t 0)), AV.ints .u64 (AV.asInts (aget t 1)), AV.ints .u64 (AV.asInts (aget t 2))])
      else
        bif decide ((↑(List.length t) : Int) = (0 : Int)) then
          bif AV.toBool (aget a 0) then
            Option.bind (nAddF (t, t_1)) fun t =>
              Option.bind (raFitsF (t.1, t.2)) fun t =>
                Option.bind (raLowestF (true, t, t_2)) fun t =>
                  some
                    ([AV.bool (AV.toBool (aget a 0)), AV.ints .u64 (AV.asInts (aget a 1)), AV.ints .u64 (AV.asInts (aget a 2))],
                      [AV.bool (AV.toBool (aget b 0)), AV.ints .u64 (AV.asInts (aget b 1)), AV.ints .u64 (AV.asInts (aget b 2))],
                      [AV.bool (AV.toBool (aget t 0)), AV.ints .u64 (AV.asInts (aget t 1)), AV.ints .u64 (AV.asInts (aget t 2))])
          else
            Option.bind (nAddF (t, t_1)) fun t =>
              Option.bind (raFitsF (t.1, t.2)) fun t =>
                Option.bind (raLowestF (AV.toBool (aget b 0), t, t_2)) fun t =>
                  some
                    ([AV.bool (AV.toBool (aget a 0)), AV.ints .u64 (AV.asInts (aget a 1)), AV.ints .u64 (AV.asInts (aget a 2))],
                      [AV.bool (AV.toBool (aget b 0)), AV.ints .u64 (AV.asInts (aget b 1)), AV.ints .u64 (AV.asInts (aget b 2))],
                      [AV.bool (AV.toBool (aget t 0)), AV.ints .u64 (AV.asInts (aget t 1)), AV.ints .u64 (AV.asInts (aget t 2))])
        else
          bif decide ((↑(List.length t_1) : Int) = (0 : Int)) then
            bif AV.toBool (aget a 0) then
              Option.bind (nAddF (t, t_1)) fun t =>
                Option.bind (raFitsF (t.1, t.2)) fun t =>
                  Option.bind (raLowestF (true, t, t_2)) fun t =>
                    some
                      ([AV.bool (AV.toBool (aget a 0)), AV.ints .u64 (AV.asInts (aget a 1)), AV.ints .u64 (AV.asInts (aget a 2))],
                        [AV.bool (AV.toBool (aget b 0)), AV.ints .u64 (AV.asInts (aget b 1)), AV.ints .u64 (AV.asInts (aget b 2))],
                        [AV.bool (AV.toBool (aget t 0)), AV.ints .u64 (AV.asInts (aget t 1)), AV.ints .u64 (AV.asInts (aget t 2))])
            else
              Option.bind (nAddF (t, t_1)) fun t =>
                Option.bind (raFitsF (t.1, t.2)) fun t =>
                  Option.bind (raLowestF (AV.toBool (aget b 0), t, t_2)) fun t =>
                    some
                      ([AV.bool (AV.toBool (aget a 0)), AV.ints .u64 (AV.asInts (aget a 1)), AV.ints .u64 (AV.asInts (aget a 2))],
                        [AV.bool (AV.toBool (aget b 0)), AV.ints .u64 (AV.asInts (aget b 1)), AV.ints .u64 (AV.asInts (aget b 2))],
                        [AV.bool (AV.toBool (aget t 0)), AV.ints .u64 (AV.asInts (aget t 1)), AV.ints .u64 (AV.asInts (aget t 2))])
          else
            Option.bind (nCmpF (t, t_1)) fun t_3 =>
              bif decide (t_3 < (0 : Int)) then
                Option.bind (nSubF (t_1, t)) fun t =>
                  Option.bind (raFitsF (t.1, t.2)) fun t =>
                    Option.bind (raLowestF (AV.toBool (aget b 0), t, t_2)) fun t =>
                      some
                        ([AV.bool (AV.toBool (aget a 0)), AV.ints .u64 (AV.asInts (aget a 1)), AV.ints .u64 (AV.asInts (aget a 2))],
                          [AV.bool (AV.toBool (aget b 0)), AV.ints .u64 (AV.asInts (aget b 1)), AV.ints .u64 (AV.asInts (aget b 2))],
                          [AV.bool (AV.toBool (aget t 0)), AV.ints .u64 (AV.asInts (aget t 1)), AV.ints .u64 (AV.asInts (aget t 2))])
              else
                Option.bind (nSubF (t, t_1)) fun t =>
                  Option.bind (raFitsF (t.1, t.2)) fun t =>
                    Option.bind (raLowestF (AV.toBool (aget a 0), t, t_2)) fun t =>
                      some
                        ([AV.bool (AV.toBool (aget a 0)), AV.ints .u64 (AV.asInts (aget a 1)), AV.ints .u64 (AV.asInts (aget a 2))],
                          [AV.bool (AV.toBool (aget b 0)), AV.ints .u64 (AV.asInts (aget b 1)), AV.ints .u64 (AV.asInts (aget b 2))],
                          [AV.bool (AV.toBool (aget t 0)), AV.ints .u64 (AV.asInts (aget t 1)), AV.ints .u64 (AV.asInts (aget t 2))])
noncomputable def raAdd1_E : Env (dens (gOuts [.p 34 [.bool, .sl (.int .u64), .sl (.int .u64)], .p 34 [.bool, .sl (.int .u64), .sl (.int .u64)]] [.v (.st [.bool, .sl (.int .u64), .sl (.int .u64)])])) := envG S.tab [(87, mkF [.sl (.int .u64), .sl (.int .u64)] [.sl (.int .u64)] raMulnF), (86, mkF [.bool, .sl (.int .u64), .sl (.int .u64)] [.st [.bool, .sl (.int .u64), .sl (.int .u64)]] raLowestF), (89, mkF [.sl (.int .u64), .int .i64] [.sl (.int .u64)] raFitsF), (90, mkF [.sl (.int .u64), .sl (.int .u64)] [.sl (.int .u64), .int .i64] nAddF), (91, mkF [.sl (.int .u64), .sl (.int .u64)] [.int .i64] nCmpF), (92, mkF [.sl (.int .u64), .sl (.int .u64)] [.sl (.int .u64), .int .i64] nSubF)] Tryz.f88 [.cell 2 34] [.p 34 [.bool, .sl (.int .u64), .sl (.int .u64)], .p 34 [.bool, .sl (.int .u64), .sl (.int .u64)]] [.v (.st [.bool, .sl (.int .u64), .sl (.int .u64)])] []
theorem raAdd1_s0 (r : Rec (dens (gOuts [.p 34 [.bool, .sl (.int .u64), .sl (.int .u64)], .p 34 [.bool, .sl (.int .u64), .sl (.int .u64)]] [.v (.st [.bool, .sl (.int .u64), .sl (.int .u64)])]))) (a : List AV) (b : List AV) : evT raAdd1_E raAdd1_h r 3000 false [.code (bodyOf Tryz.f88)] (T0 0 [.ptr 0 3 0 0, .ptr 1 3 0 0]) [.A 1000034 (.st [.bool, .sl (.int .u64), .sl (.int .u64)]) [.agg (etaL [.bool, .sl (.int .u64), .sl (.int .u64)] 0 a)], .A 1000034 (.st [.bool, .sl (.int .u64), .sl (.int .u64)]) [.agg (etaL [.bool, .sl (.int .u64), .sl (.int .u64)] 0 b)]] = raAdd1_b0  a b := by kernel_rfl
theorem raAdd1_ev (k : Nat) (a : List AV) (b : List AV) : evM raAdd1_E raAdd1_h 3000 k [.code (bodyOf Tryz.f88)] (T0 0 [.ptr 0 3 0 0, .ptr 1 3 0 0]) [.A 1000034 (.st [.bool, .sl (.int .u64), .sl (.int .u64)]) [.agg (etaL [.bool, .sl (.int .u64), .sl (.int .u64)] 0 a)], .A 1000034 (.st [.bool, .sl (.int .u64), .sl (.int .u64)]) [.agg (etaL [.bool, .sl (.int .u64), .sl (.int .u64)] 0 b)]] = raAdd1_b0  a b := by
  exact raAdd1_s0 _ a b
def raMul1_h : Nat → Option Head := hintOf []
def raMul1_b0  (a : List AV) (b : List AV) : Option (List AV × List AV × List AV) :=
  Option.bind (raMulnF (AV.asInts (aget a 1), AV.asInts (aget b 1))) fun t =>
  Option.bind (raMulnF (AV.asInts (aget a 2), AV.asInts (aget b 2))) fun t_1 =>
    Option.bind (raLowestF (!decide (AV.toBool (aget a 0) = AV.toBool (aget b 0)), t, t_1)) fun t =>
      some
        ([AV.bool (AV.toBool (aget a 0)), AV.ints .u64 (AV.asInts (aget a 1)), AV.ints .u64 (AV.asInts (aget a 2))],
          [AV.bool (AV.toBool (aget b 0)), AV.ints .u64 (AV.asInts (aget b 1)), AV.ints .u64 (AV.asInts (aget b 2))],
          [AV.bool (AV.toBool (aget t 0)), AV.ints .u64 (AV.asInts (aget t 1)), AV.ints .u64 (AV.asInts (aget t 2))])
noncomputable def raMul1_E : Env (dens (gOuts [.p 34 [.bool, .sl (.int .u64), .sl (.int .u64)], .p 34 [.bool, .sl (.int .u64), .sl (.int .u64)]] [.v (.st [.bool, .sl (.int .u64), .sl (.int .u64)])])) := envG S.tab [(87, mkF [.sl (.int .u64), .sl (.int .u64)] [.sl (.int .u64)] raMulnF), (86, mkF [.bool, .sl (.int .u64), .sl (.int .u64)] [.st [.bool, .sl (.int .u64), .sl (.int .u64)]] raLowestF)] Tryz.f85 [.cell 2 34] [.p 34 [.bool, .sl (.int .u64), .sl (.int .u64)], .p 34 [.bool, .sl (.int .u64), .sl (.int .u64)]] [.v (.st [.bool, .sl (.int .u64), .sl (.int .u64)])] []
theorem raMul1_s0 (r : Rec (dens (gOuts [.p 34 [.bool, .sl (.int .u64), .sl (.int .u64)], .p 34 [.bool, .sl (.int .u64), .sl (.int .u64)]] [.v (.st [.bool, .sl (.int .u64), .sl (.int .u64)])]))) (a : List AV) (b : List AV) : evT raMul1_E raMul1_h r 3000 false [.code (bodyOf Tryz.f85)] (T0 0 [.ptr 0 3 0 0, .ptr 1 3 0 0]) [.A 1000034 (.st [.bool, .sl (.int .u64), .sl (.int .u64)]) [.agg (etaL [.bool, .sl (.int .u64), .sl (.int .u64)] 0 a)], .A 1000034 (.st [.bool, .sl (.int .u64), .sl (.int .u64)]) [.agg (etaL [.bool, .sl (.int .u64), .sl (.int .u64)] 0 b)]] = raMul1_b0  a b := by kernel_rfl
theorem raMul1_ev (k : Nat) (a : List AV) (b : List AV) : evM raMul1_E raMul1_h 3000 k [.code (bodyOf Tryz.f85)] (T0 0 [.ptr 0 3 0 0, .ptr 1 3 0 0]) [.A 1000034 (.st [.bool, .sl (.int .u64), .sl (.int .u64)]) [.agg (etaL [.bool, .sl (.int .u64), .sl (.int .u64)] 0 a)], .A 1000034 (.st [.bool, .sl (.int .u64), .sl (.int .u64)]) [.agg (etaL [.bool, .sl (.int .u64), .sl (.int .u64)] 0 b)]] = raMul1_b0  a b := by
  exact raMul1_s0 _ a b
def raCmp1_h : Nat → Option Head := hintOf []
def raCmp1_b0  (a : List AV) (b : List AV) (c : List AV) : Option (List AV × List AV × List AV × List AV) :=
  Option.bind (raSignF [AV.bool (AV.toBool (aget a 0)), AV.ints .u64 (AV.asInts (aget a 1)), AV.ints .u64 (AV.asInts (aget a 2))]) fun t =>
  Option.bind (raSignF [AV.bool (AV.toBool (aget b 0)), AV.ints .u64 (AV.asInts (aget b 1)), AV.ints .u64 (AV.asInts (aget b 2))]) fun t_1 =>
    bif decide (t < t_1) then
      some
        ([AV.bool (AV.toBool (aget a 0)), AV.ints .u64 (AV.asInts (aget a 1)), AV.ints .u64 (AV.asInts (aget a 2))],
          [AV.bool (AV.toBool (aget b 0)), AV.ints .u64 (AV.asInts (aget b 1)), AV.ints .u64 (AV.asInts (aget b 2))], [AV.int .i64 (-1 : Int)],
          [AV.bool false, AV.ints .u64 [], AV.ints .u64 []])
    else
      bif decide (t > t_1) then
        some
          ([AV.bool (AV.toBool (aget a 0)), AV.ints .u64 (AV.asInts (aget a 1)), AV.ints .u64 (AV.asInts (aget a 2))],
            [AV.bool (AV.toBool (aget b 0)), AV.ints .u64 (AV.asInts (aget b 1)), AV.ints .u64 (AV.asInts (aget b 2))], [AV.int .i64 (1 : Int)],
            [AV.bool false, AV.ints .u64 [], AV.ints .u64 []])
      else
        Option.bind (raMulnF (AV.asInts (aget a 1), AV.asInts (aget b 2))) fun t_2 =>
          Option.bind (raMulnF (AV.asInts (aget b 1), AV.asInts (aget a 2))) fun t_3 =>
            Option.bind (nCmpF (t_2, t_3)) fun t_4 =>
              bif decide (t < (0 : Int)) then
                some
                  ([AV.bool (AV.toBool (aget a 0)), AV.ints .u64 (AV.asInts (aget a 1)), AV.ints .u64 (AV.asInts (aget a 2))],
                    [AV.bool (AV.toBool (aget b 0)), AV.ints .u64 (AV.asInts (aget b 1)), AV.ints .u64 (AV.asInts (aget b 2))],
                    [AV.int .i64 (subI .i64 (0 : Int) t_4)], [AV.bool false, AV.ints .u64 [], AV.ints .u64 []])
              else
                some
                  ([AV.bool (AV.toBool (aget a 0)), AV.ints .u64 (AV.asInts (aget a 1)), AV.ints .u64 (AV.asInts (aget a 2))],
                    [AV.bool (AV.toBool (aget b 0)), AV.ints .u64 (AV.asInts (aget b 1)), AV.ints .u64 (AV.asInts (aget b 2))], [AV.int .i64 t_4],
                    [AV.bool false, AV.ints .u64 [], AV.ints .u64 []])
noncomputable def raCmp1_E : Env (dens (gOuts [.p 34 [.bool, .sl (.int .u64), .sl (.int .u64)], .p 34 [.bool, .sl (.int .u64), .sl (.int .u64)], .p 3 [.int .i64]] [.v (.st [.bool, .sl (.int .u64), .sl (.int .u64)])])) := envG S.tab [(25, mkF [.st [.bool, .sl (.int .u64), .sl (.int .u64)]] [.int .i64] raSignF), (87, mkF [.sl (.int .u64), .sl (.int .u64)] [.sl (.int .u64)] raMulnF), (91, mkF [.sl (.int .u64), .sl (.int .u64)] [.int .i64] nCmpF)] Tryz.f93 [.cell 3 34] [.p 34 [.bool, .sl (.int .u64), .sl (.int .u64)], .p 34 [.bool, .sl (.int .u64), .sl (.int .u64)], .p 3 [.int .i64]] [.v (.st [.bool, .sl (.int .u64), .sl (.int .u64)])] []
theorem raCmp1_s0 (r : Rec (dens (gOuts [.p 34 [.bool, .sl (.int .u64), .sl (.int .u64)], .p 34 [.bool, .sl (.int .u64), .sl (.int .u64)], .p 3 [.int .i64]] [.v (.st [.bool, .sl (.int .u64), .sl (.int .u64)])]))) (a : List AV) (b : List AV) (c : List AV) : evT raCmp1_E raCmp1_h r 3000 false [.code (bodyOf Tryz.f93)] (T0 0 [.ptr 0 3 0 0, .ptr 1 3 0 0, .ptr 2 1 0 0]) [.A 1000034 (.st [.bool, .sl (.int .u64), .sl (.int .u64)]) [.agg (etaL [.bool, .sl (.int .u64), .sl (.int .u64)] 0 a)], .A 1000034 (.st [.bool, .sl (.int .u64), .sl (.int .u64)]) [.agg (etaL [.bool, .sl (.int .u64), .sl (.int .u64)] 0 b)], .A 1000003 (.st [.int .i64]) [.agg (etaL [.int .i64] 0 c)]] = raCmp1_b0  a b c := by kernel_rfl
theorem raCmp1_ev (k : Nat) (a : List AV) (b : List AV) (c : List AV) : evM raCmp1_E raCmp1_h 3000 k [.code (bodyOf Tryz.f93)] (T0 0 [.ptr 0 3 0 0, .ptr 1 3 0 0, .ptr 2 1 0 0]) [.A 1000034 (.st [.bool, .sl (.int .u64), .sl (.int .u64)]) [.agg (etaL [.bool, .sl (.int .u64), .sl (.int .u64)] 0 a)], .A 1000034 (.st [.bool, .sl (.int .u64), .sl (.int .u64)]) [.agg (etaL [.bool, .sl (.int .u64), .sl (.int .u64)] 0 b)], .A 1000003 (.st [.int .i64]) [.agg (etaL [.int .i64] 0 c)]] = raCmp1_b0  a b c := by
  exact raCmp1_s0 _ a b c
def raRecAdd_h : Nat → Option Head := hintOf []
def raRecAdd_b0  (a : List AV) (b : List AV) (c : List AV) (d : List AV) : Option (List AV × List AV × List AV × Int) :=
  Option.bind (raCheckF [AV.bool (AV.toBool (aget a 0)), AV.ints .u64 (AV.asInts (aget a 1)), AV.ints .u64 (AV.asInts (aget a 2))]) fun t =>
  bif !decide (t = (0 : Int)) then
    some
      ([AV.bool (AV.toBool (aget c 0)), AV.ints .u64 (AV.asInts (aget c 1)), AV.ints .u64 (AV.asInts (aget c 2))],
        [AV.bool (AV.toBool (aget d 0)), AV.ints .u64 (AV.asInts (aget d 1)), AV.ints .u64 (AV.asInts (aget d 2))],
        [AV.bool false, AV.ints .u64 [], AV.ints .u64 []], (51 : Int))
  else
    Option.bind (raCheckF [AV.bool (AV.toBool (aget b 0)), AV.ints .u64 (AV.asInts (aget b 1)), AV.ints .u64 (AV.asInts (aget b 2))]) fun t =>
      bif !decide (t = (0 : Int)) then
        some
          ([AV.bool (AV.toBool (aget c 0)), AV.ints .u64 (AV.asInts (aget c 1)), AV.ints .u64 (AV.asInts (aget c 2))],
            [AV.bool (AV.toBool (aget d 0)), AV.ints .u64 (AV.asInts (aget d 1)), AV.ints .u64 (AV.asInts (aget d 2))],
            [AV.bool false, AV.ints .u64 [], AV.ints .u64 []], (51 : Int))
      else
        Option.bind
          (raAdd1F
            ([AV.bool (AV.toBool (aget c 0)), AV.ints .u64 (AV.asInts (aget c 1)), AV.ints .u64 (AV.asInts (aget c 2))],
              [AV.bool (AV.toBool (aget d 0)), AV.ints .u64 (AV.asInts (aget d 1)), AV.ints .u64 (AV.asInts (aget d 2))]))
          fun t =>
          some
            ([AV.bool (AV.toBool (aget t.1 0)), AV.ints .u64 (AV.asInts (aget t.1 1)), AV.ints .u64 (AV.asInts (aget t.1 2))],
              [AV.bool (AV.toBool (aget (Prod.snd t).1 0)), AV.ints .u64 (AV.asInts (aget (Prod.snd t).1 1)),
                AV.ints .u64 (AV.asInts (aget (Prod.snd t).1 2))],
              [AV.bool (AV.toBool (aget (Prod.snd t).2 0)), AV.ints .u64 (AV.asInts (aget (Prod.snd t).2 1)),
                AV.ints .u64 (AV.asInts (aget (Prod.snd t).2 2))],
              (0 : Int))
noncomputable def raRecAdd_E : Env (dens (gOuts [.v (.st [.bool, .sl (.int .u64), .sl (.int .u64)]), .v (.st [.bool, .sl (.int .u64), .sl (.int .u64)]), .p 34 [.bool, .sl (.int .u64), .sl (.int .u64)], .p 34 [.bool, .sl (.int .u64), .sl (.int .u64)]] [.v (.st [.bool, .sl (.int .u64), .sl (.int .u64)]), .v (.int .i64)])) := envGc S.tab [(82, mkF [.st [.bool, .sl (.int .u64), .sl (.int .u64)]] [.int .i64] raCheckF), (88, mkG [.p 34 [.bool, .sl (.int .u64), .sl (.int .u64)], .p 34 [.bool, .sl (.int .u64), .sl (.int .u64)]] [.v (.st [.bool, .sl (.int .u64), .sl (.int .u64)])] raAdd1F)] Tryz.f84 [.cell 6 34, .cell 7 27] [.v (.st [.bool, .sl (.int .u64), .sl (.int .u64)]), .v (.st [.bool, .sl (.int .u64), .sl (.int .u64)]), .p 34 [.bool, .sl (.int .u64), .sl (.int .u64)], .p 34 [.bool, .sl (.int .u64), .sl (.int .u64)]] [.v (.st [.bool, .sl (.int .u64), .sl (.int .u64)]), .v (.int .i64)] [] (fun g => Nat.beq g 106)
theorem raRecAdd_s0 (r : Rec (dens (gOuts [.v (.st [.bool, .sl (.int .u64), .sl (.int .u64)]), .v (.st [.bool, .sl (.int .u64), .sl (.int .u64)]), .p 34 [.bool, .sl (.int .u64), .sl (.int .u64)], .p 34 [.bool, .sl (.int .u64), .sl (.int .u64)]] [.v (.st [.bool, .sl (.int .u64), .sl (.int .u64)]), .v (.int .i64)]))) (a : List AV) (b : List AV) (c : List AV) (d : List AV) : evT raRecAdd_E raRecAdd_h r 3000 false [.code (bodyOf Tryz.f84)] (T0 0 [.agg (etaL [.bool, .sl (.int .u64), .sl (.int .u64)] 0 a), .agg (etaL [.bool, .sl (.int .u64), .sl (.int .u64)] 0 b), .clo 88 0 [.ptr 0 3 0 0, .ptr 1 3 0 0]]) [.A 1000034 (.st [.bool, .sl (.int .u64), .sl (.int .u64)]) [.agg (etaL [.bool, .sl (.int .u64), .sl (.int .u64)] 0 c)], .A 1000034 (.st [.bool, .sl (.int .u64), .sl (.int .u64)]) [.agg (etaL [.bool, .sl (.int .u64), .sl (.int .u64)] 0 d)]] = raRecAdd_b0  a b c d := by kernel_rfl
theorem raRecAdd_ev (k : Nat) (a : List AV) (b : List AV) (c : List AV) (d : List AV) : evM raRecAdd_E raRecAdd_h 3000 k [.code (bodyOf Tryz.f84)] (T0 0 [.agg (etaL [.bool, .sl (.int .u64), .sl (.int .u64)] 0 a), .agg (etaL [.bool, .sl (.int .u64), .sl (.int .u64)] 0 b), .clo 88 0 [.ptr 0 3 0 0, .ptr 1 3 0 0]]) [.A 1000034 (.st [.bool, .sl (.int .u64), .sl (.int .u64)]) [.agg (etaL [.bool, .sl (.int .u64), .sl (.int .u64)] 0 c)], .A 1000034 (.st [.bool, .sl (.int .u64), .sl (.int .u64)]) [.agg (etaL [.bool, .sl (.int .u64), .sl (.int .u64)] 0 d)]] = raRecAdd_b0  a b c d := by
  exact raRecAdd_s0 _ a b c d
def raRecMul_h : Nat → Option Head := hintOf []
def raRecMul_b0  (a : List AV) (b : List AV) (c : List AV) (d : List AV) : Option (List AV × List AV × List AV × Int) :=
  Option.bind (raCheckF [AV.bool (AV.toBool (aget a 0)), AV.ints .u64 (AV.asInts (aget a 1)), AV.ints .u64 (AV.asInts (aget a 2))]) fun t =>
  bif !decide (t = (0 : Int)) then
    some
      ([AV.bool (AV.toBool (aget c 0)), AV.ints .u64 (AV.asInts (aget c 1)), AV.ints .u64 (AV.asInts (aget c 2))],
        [AV.bool (AV.toBool (aget d 0)), AV.ints .u64 (AV.asInts (aget d 1)), AV.ints .u64 (AV.asInts (aget d 2))],
        [AV.bool false, AV.ints .u64 [], AV.ints .u64 []], (51 : Int))
  else
    Option.bind (raCheckF [AV.bool (AV.toBool (aget b 0)), AV.ints .u64 (AV.asInts (aget b 1)), AV.ints .u64 (AV.asInts (aget b 2))]) fun t =>
      bif !decide (t = (0 : Int)) then
        some
          ([AV.bool (AV.toBool (aget c 0)), AV.ints .u64 (AV.asInts (aget c 1)), AV.ints .u64 (AV.asInts (aget c 2))],
            [AV.bool (AV.toBool (aget d 0)), AV.ints .u64 (AV.asInts (aget d 1)), AV.ints .u64 (AV.asInts (aget d 2))],
            [AV.bool false, AV.ints .u64 [], AV.ints .u64 []], (51 : Int))
      else
        Option.bind
          (raMul1F
            ([AV.bool (AV.toBool (aget c 0)), AV.ints .u64 (AV.asInts (aget c 1)), AV.ints .u64 (AV.asInts (aget c 2))],
              [AV.bool (AV.toBool (aget d 0)), AV.ints .u64 (AV.asInts (aget d 1)), AV.ints .u64 (AV.asInts (aget d 2))]))
          fun t =>
          some
            ([AV.bool (AV.toBool (aget t.1 0)), AV.ints .u64 (AV.asInts (aget t.1 1)), AV.ints .u64 (AV.asInts (aget t.1 2))],
              [AV.bool (AV.toBool (aget (Prod.snd t).1 0)), AV.ints .u64 (AV.asInts (aget (Prod.snd t).1 1)),
                AV.ints .u64 (AV.asInts (aget (Prod.snd t).1 2))],
              [AV.bool (AV.toBool (aget (Prod.snd t).2 0)), AV.ints .u64 (AV.asInts (aget (Prod.snd t).2 1)),
                AV.ints .u64 (AV.asInts (aget (Prod.snd t).2 2))],
              (0 : Int))
noncomputable def raRecMul_E : Env (dens (gOuts [.v (.st [.bool, .sl (.int .u64), .sl (.int .u64)]), .v (.st [.bool, .sl (.int .u64), .sl (.int .u64)]), .p 34 [.bool, .sl (.int .u64), .sl (.int .u64)], .p 34 [.bool, .sl (.int .u64), .sl (.int .u64)]] [.v (.st [.bool, .sl (.int .u64), .sl (.int .u64)]), .v (.int .i64)])) := envGc S.tab [(82, mkF [.st [.bool, .sl (.int .u64), .sl (.int .u64)]] [.int .i64] raCheckF), (85, mkG [.p 34 [.bool, .sl (.int .u64), .sl (.int .u64)], .p 34 [.bool, .sl (.int .u64), .sl (.int .u64)]] [.v (.st [.bool, .sl (.int .u64), .sl (.int .u64)])] raMul1F)] Tryz.f84 [.cell 6 34, .cell 7 27] [.v (.st [.bool, .sl (.int .u64), .sl (.int .u64)]), .v (.st [.bool, .sl (.int .u64), .sl (.int .u64)]), .p 34 [.bool, .sl (.int .u64), .sl (.int .u64)], .p 34 [.bool, .sl (.int .u64), .sl (.int .u64)]] [.v (.st [.bool, .sl (.int .u64), .sl (.int .u64)]), .v (.int .i64)] [] (fun g => Nat.beq g 106)
theorem raRecMul_s0 (r : Rec (dens (gOuts [.v (.st [.bool, .sl (.int .u64), .sl (.int .u64)]), .v (.st [.bool, .sl (.int .u64), .sl (.int .u64)]), .p 34 [.bool, .sl (.int .u64), .sl (.int .u64)], .p 34 [.bool, .sl (.int .u64), .sl (.int .u64)]] [.v (.st [.bool, .sl (.int .u64), .sl (.int .u64)]), .v (.int .i64)]))) (a : List AV) (b : List AV) (c : List AV) (d : List AV) : evT raRecMul_E raRecMul_h r 3000 false [.code (bodyOf Tryz.f84)] (T0 0 [.agg (etaL [.bool, .sl (.int .u64), .sl (.int .u64)] 0 a), .agg (etaL [.bool, .sl (.int .u64), .sl (.int .u64)] 0 b), .clo 85 0 [.ptr 0 3 0 0, .ptr 1 3 0 0]]) [.A 1000034 (.st [.bool, .sl (.int .u64), .sl (.int .u64)]) [.agg (etaL [.bool, .sl (.int .u64), .sl (.int .u64)] 0 c)], .A 1000034 (.st [.bool, .sl (.int .u64), .sl (.int .u64)]) [.agg (etaL [.bool, .sl (.int .u64), .sl (.int .u64)] 0 d)]] = raRecMul_b0  a b c d := by kernel_rfl
theorem raRecMul_ev (k : Nat) (a : List AV) (b : List AV) (c : List AV) (d : List AV) : evM raRecMul_E raRecMul_h 3000 k [.code (bodyOf Tryz.f84)] (T0 0 [.agg (etaL [.bool, .sl (.int .u64), .sl (.int .u64)] 0 a), .agg (etaL [.bool, .sl (.int .u64), .sl (.int .u64)] 0 b), .clo 85 0 [.ptr 0 3 0 0, .ptr 1 3 0 0]]) [.A 1000034 (.st [.bool, .sl (.int .u64), .sl (.int .u64)]) [.agg (etaL [.bool, .sl (.int .u64), .sl (.int .u64)] 0 c)], .A 1000034 (.st [.bool, .sl (.int .u64), .sl (.int .u64)]) [.agg (etaL [.bool, .sl (.int .u64), .sl (.int .u64)] 0 d)]] = raRecMul_b0  a b c d := by
  exact raRecMul_s0 _ a b c d
def raRecCmp_h : Nat → Option Head := hintOf []
def raRecCmp_b0  (a : List AV) (b : List AV) (c : List AV) (d : List AV) (e : List AV) : Option (List AV × List AV × List AV × List AV × Int) :=
  Option.bind (raCheckF [AV.bool (AV.toBool (aget a 0)), AV.ints .u64 (AV.asInts (aget a 1)), AV.ints .u64 (AV.asInts (aget a 2))]) fun t =>
  bif !decide (t = (0 : Int)) then
    some
      ([AV.bool (AV.toBool (aget c 0)), AV.ints .u64 (AV.asInts (aget c 1)), AV.ints .u64 (AV.asInts (aget c 2))],
        [AV.bool (AV.toBool (aget d 0)), AV.ints .u64 (AV.asInts (aget d 1)), AV.ints .u64 (AV.asInts (aget d 2))],
        [AV.int .i64 (AV.toInt (aget e 0))], [AV.bool false, AV.ints .u64 [], AV.ints .u64 []], (51 : Int))
  else
    Option.bind (raCheckF [AV.bool (AV.toBool (aget b 0)), AV.ints .u64 (AV.asInts (aget b 1)), AV.ints .u64 (AV.asInts (aget b 2))]) fun t =>
      bif !decide (t = (0 : Int)) then
        some
          ([AV.bool (AV.toBool (aget c 0)), AV.ints .u64 (AV.asInts (aget c 1)), AV.ints .u64 (AV.asInts (aget c 2))],
            [AV.bool (AV.toBool (aget d 0)), AV.ints .u64 (AV.asInts (aget d 1)), AV.ints .u64 (AV.asInts (aget d 2))],
            [AV.int .i64 (AV.toInt (aget e 0))], [AV.bool false, AV.ints .u64 [], AV.ints .u64 []], (51 : Int))
      else
        Option.bind
          (raCmp1F
            ([AV.bool (AV.toBool (aget c 0)), AV.ints .u64 (AV.asInts (aget c 1)), AV.ints .u64 (AV.asInts (aget c 2))],
              [AV.bool (AV.toBool (aget d 0)), AV.ints .u64 (AV.asInts (aget d 1)), AV.ints .u64 (AV.asInts (aget d 2))],
              [AV.int .i64 (AV.toInt (aget e 0))]))
          fun t =>
          some
            ([AV.bool (AV.toBool (aget t.1 0)), AV.ints .u64 (AV.asInts (aget t.1 1)), AV.ints .u64 (AV.asInts (aget t.1 2))],
              [AV.bool (AV.toBool (aget (Prod.snd t).1 0)), AV.ints .u64 (AV.asInts (aget (Prod.snd t).1 1)),
                AV.ints .u64 (AV.asInts (aget (Prod.snd t).1 2))],
              [AV.int .i64 (AV.toInt (aget (Prod.snd (Prod.snd t)).1 0))],
              [AV.bool (AV.toBool (aget (Prod.snd (Prod.snd t)).2 0)), AV.ints .u64 (AV.asInts (aget (Prod.snd (Prod.snd t)).2 1)),
                AV.ints .u64 (AV.asInts (aget (Prod.snd (Prod.snd t)).2 2))],
              (0 : Int))
noncomputable def raRecCmp_E : Env (dens (gOuts [.v (.st [.bool, .sl (.int .u64), .sl (.int .u64)]), .v (.st [.bool, .sl (.int .u64), .sl (.int .u64)]), .p 34 [.bool, .sl (.int .u64), .sl (.int .u64)], .p 34 [.bool, .sl (.int .u64), .sl (.int .u64)], .p 3 [.int .i64]] [.v (.st [.bool, .sl (.int .u64), .sl (.int .u64)]), .v (.int .i64)])) := envGc S.tab [(82, mkF [.st [.bool, .sl (.int .u64), .sl (.int .u64)]] [.int .i64] raCheckF), (93, mkG [.p 34 [.bool, .sl (.int .u64), .sl (.int .u64)], .p 34 [.bool, .sl (.int .u64), .sl (.int .u64)], .p 3 [.int .i64]] [.v (.st [.bool, .sl (.int .u64), .sl (.int .u64)])] raCmp1F)] Tryz.f84 [.cell 6 34, .cell 7 27] [.v (.st [.bool, .sl (.int .u64), .sl (.int .u64)]), .v (.st [.bool, .sl (.int .u64), .sl (.int .u64)]), .p 34 [.bool, .sl (.int .u64), .sl (.int .u64)], .p 34 [.bool, .sl (.int .u64), .sl (.int .u64)], .p 3 [.int .i64]] [.v (.st [.bool, .sl (.int .u64), .sl (.int .u64)]), .v (.int .i64)] [] (fun g => Nat.beq g 106)
theorem raRecCmp_s0 (r : Rec (dens (gOuts [.v (.st [.bool, .sl (.int .u64), .sl (.int .u64)]), .v (.st [.bool, .sl (.int .u64), .sl (.int .u64)]), .p 34 [.bool, .sl (.int .u64), .sl (.int .u64)], .p 34 [.bool, .sl (.int .u64), .sl (.int .u64)], .p 3 [.int .i64]] [.v (.st [.bool, .sl (.int .u64), .sl (.int .u64)]), .v (.int .i64)]))) (a : List AV) (b : List AV) (c : List AV) (d : List AV) (e : List AV) : evT raRecCmp_E raRecCmp_h r 3000 false [.code (bodyOf Tryz.f84)] (T0 0 [.agg (etaL [.bool, .sl (.int .u64), .sl (.int .u64)] 0 a), .agg (etaL [.bool, .sl (.int .u64), .sl (.int .u64)] 0 b), .clo 93 0 [.ptr 0 3 0 0, .ptr 1 3 0 0, .ptr 2 1 0 0]]) [.A 1000034 (.st [.bool, .sl (.int .u64), .sl (.int .u64)]) [.agg (etaL [.bool, .sl (.int .u64), .sl (.int .u64)] 0 c)], .A 1000034 (.st [.bool, .sl (.int .u64), .sl (.int .u64)]) [.agg (etaL [.bool, .sl (.int .u64), .sl (.int .u64)] 0 d)], .A 1000003 (.st [.int .i64]) [.agg (etaL [.int .i64] 0 e)]] = raRecCmp_b0  a b c d e := by kernel_rfl
theorem raRecCmp_ev (k : Nat) (a : List AV) (b : List AV) (c : List AV) (d : List AV) (e : List AV) : evM raRecCmp_E raRecCmp_h 3000 k [.code (bodyOf Tryz.f84)] (T0 0 [.agg (etaL [.bool, .sl (.int .u64), .sl (.int .u64)] 0 a), .agg (etaL [.bool, .sl (.int .u64), .sl (.int .u64)] 0 b), .clo 93 0 [.ptr 0 3 0 0, .ptr 1 3 0 0, .ptr 2 1 0 0]]) [.A 1000034 (.st [.bool, .sl (.int .u64), .sl (.int .u64)]) [.agg (etaL [.bool, .sl (.int .u64), .sl (.int .u64)] 0 c)], .A 1000034 (.st [.bool, .sl (.int .u64), .sl (.int .u64)]) [.agg (etaL [.bool, .sl (.int .u64), .sl (.int .u64)] 0 d)], .A 1000003 (.st [.int .i64]) [.agg (etaL [.int .i64] 0 e)]] = raRecCmp_b0  a b c d e := by
  exact raRecCmp_s0 _ a b c d e
def raAdd_h : Nat → Option Head := hintOf []
def raAdd_b0  (a : List AV) (b : List AV) : Option (List AV × Int) :=
  Option.bind
  (raRecAddF
    ([AV.bool (AV.toBool (aget a 0)), AV.ints .u64 (AV.asInts (aget a 1)), AV.ints .u64 (AV.asInts (aget a 2))],
      [AV.bool (AV.toBool (aget b 0)), AV.ints .u64 (AV.asInts (aget b 1)), AV.ints .u64 (AV.asInts (aget b 2))],
      [AV.bool (AV.toBool (aget a 0)), AV.ints .u64 (AV.asInts (aget a 1)), AV.ints .u64 (AV.asInts (aget a 2))],
      [AV.bool (AV.toBool (aget b 0)), AV.ints .u64 (AV.asInts (aget b 1)), AV.ints .u64 (AV.asInts (aget b 2))]))
  fun t =>
  some
    ([AV.bool (AV.toBool (aget (Prod.snd (Prod.snd t)).1 0)), AV.ints .u64 (AV.asInts (aget (Prod.snd (Prod.snd t)).1 1)),
        AV.ints .u64 (AV.asInts (aget (Prod.snd (Prod.snd t)).1 2))],
      (Prod.snd (Prod.snd t)).2)
noncomputable def raAdd_E : Env (dens [.st [.bool, .sl (.int .u64), .sl (.int .u64)], .int .i64]) := envR S.tab [(84, mkGc (some (88, 2)) [.v (.st [.bool, .sl (.int .u64), .sl (.int .u64)]), .v (.st [.bool, .sl (.int .u64), .sl (.int .u64)]), .p 34 [.bool, .sl (.int .u64), .sl (.int .u64)], .p 34 [.bool, .sl (.int .u64), .sl (.int .u64)]] [.v (.st [.bool, .sl (.int .u64), .sl (.int .u64)]), .v (.int .i64)] raRecAddF)] Tryz.f67 [.cell 4 34, .tmp 5] [.st [.bool, .sl (.int .u64), .sl (.int .u64)], .int .i64]
theorem raAdd_s0 (r : Rec (dens [.st [.bool, .sl (.int .u64), .sl (.int .u64)], .int .i64])) (a : List AV) (b : List AV) : evT raAdd_E raAdd_h r 3000 false [.code (bodyOf Tryz.f67)] (T0 0 [.agg (etaL [.bool, .sl (.int .u64), .sl (.int .u64)] 0 a), .agg (etaL [.bool, .sl (.int .u64), .sl (.int .u64)] 0 b)]) [] = raAdd_b0  a b := by kernel_rfl
theorem raAdd_ev (k : Nat) (a : List AV) (b : List AV) : evM raAdd_E raAdd_h 3000 k [.code (bodyOf Tryz.f67)] (T0 0 [.agg (etaL [.bool, .sl (.int .u64), .sl (.int .u64)] 0 a), .agg (etaL [.bool, .sl (.int .u64), .sl (.int .u64)] 0 b)]) [] = raAdd_b0  a b := by
  exact raAdd_s0 _ a b
def raMul_h : Nat → Option Head := hintOf []
def raMul_b0  (a : List AV) (b : List AV) : Option (List AV × Int) :=
  Option.bind
  (raRecMulF
    ([AV.bool (AV.toBool (aget a 0)), AV.ints .u64 (AV.asInts (aget a 1)), AV.ints .u64 (AV.asInts (aget a 2))],
      [AV.bool (AV.toBool (aget b 0)), AV.ints .u64 (AV.asInts (aget b 1)), AV.ints .u64 (AV.asInts (aget b 2))],
      [AV.bool (AV.toBool (aget a 0)), AV.ints .u64 (AV.asInts (aget a 1)), AV.ints .u64 (AV.asInts (aget a 2))],
      [AV.bool (AV.toBool (aget b 0)), AV.ints .u64 (AV.asInts (aget b 1)), AV.ints .u64 (AV.asInts (aget b 2))]))
  fun t =>
  some
    ([AV.bool (AV.toBool (aget (Prod.snd (Prod.snd t)).1 0)), AV.ints .u64 (AV.asInts (aget (Prod.snd (Prod.snd t)).1 1)),
        AV.ints .u64 (AV.asInts (aget (Prod.snd (Prod.snd t)).1 2))],
      (Prod.snd (Prod.snd t)).2)
noncomputable def raMul_E : Env (dens [.st [.bool, .sl (.int .u64), .sl (.int .u64)], .int .i64]) := envR S.tab [(84, mkGc (some (85, 2)) [.v (.st [.bool, .sl (.int .u64), .sl (.int .u64)]), .v (.st [.bool, .sl (.int .u64), .sl (.int .u64)]), .p 34 [.bool, .sl (.int .u64), .sl (.int .u64)], .p 34 [.bool, .sl (.int .u64), .sl (.int .u64)]] [.v (.st [.bool, .sl (.int .u64), .sl (.int .u64)]), .v (.int .i64)] raRecMulF)] Tryz.f66 [.cell 4 34, .tmp 5] [.st [.bool, .sl (.int .u64), .sl (.int .u64)], .int .i64]
theorem raMul_s0 (r : Rec (dens [.st [.bool, .sl (.int .u64), .sl (.int .u64)], .int .i64])) (a : List AV) (b : List AV) : evT raMul_E raMul_h r 3000 false [.code (bodyOf Tryz.f66)] (T0 0 [.agg (etaL [.bool, .sl (.int .u64), .sl (.int .u64)] 0 a), .agg (etaL [.bool, .sl (.int .u64), .sl (.int .u64)] 0 b)]) [] = raMul_b0  a b := by kernel_rfl
theorem raMul_ev (k : Nat) (a : List AV) (b : List AV) : evM raMul_E raMul_h 3000 k [.code (bodyOf Tryz.f66)] (T0 0 [.agg (etaL [.bool, .sl (.int .u64), .sl (.int .u64)] 0 a), .agg (etaL [.bool, .sl (.int .u64), .sl (.int .u64)] 0 b)]) [] = raMul_b0  a b := by
  exact raMul_s0 _ a b
def raSub_h : Nat → Option Head := hintOf []
def raSub_b0  (a : List AV) (b : List AV) : Option (List AV × Int) :=
  Option.bind (raCheckF [AV.bool (AV.toBool (aget b 0)), AV.ints .u64 (AV.asInts (aget b 1)), AV.ints .u64 (AV.asInts (aget b 2))]) fun t =>
  bif !decide (t = (0 : Int)) then some ([AV.bool false, AV.ints .u64 [], AV.ints .u64 []], (51 : Int))
  else
    Option.bind (raTurnedF [AV.bool (AV.toBool (aget b 0)), AV.ints .u64 (AV.asInts (aget b 1)), AV.ints .u64 (AV.asInts (aget b 2))]) fun t =>
      Option.bind
        (raAddF
          ([AV.bool (AV.toBool (aget a 0)), AV.ints .u64 (AV.asInts (aget a 1)), AV.ints .u64 (AV.asInts (aget a 2))],
            [AV.bool (AV.toBool (aget t 0)), AV.ints .u64 (AV.asInts (aget t 1)), AV.ints .u64 (AV.asInts (aget t 2))]))
        fun t => some ([AV.bool (AV.toBool (aget t.1 0)), AV.ints .u64 (AV.asInts (aget t.1 1)), AV.ints .u64 (AV.asInts (aget t.1 2))], t.2)
noncomputable def raSub_E : Env (dens [.st [.bool, .sl (.int .u64), .sl (.int .u64)], .int .i64]) := envR S.tab [(82, mkF [.st [.bool, .sl (.int .u64), .sl (.int .u64)]] [.int .i64] raCheckF), (83, mkF [.st [.bool, .sl (.int .u64), .sl (.int .u64)]] [.st [.bool, .sl (.int .u64), .sl (.int .u64)]] raTurnedF), (67, mkF [.st [.bool, .sl (.int .u64), .sl (.int .u64)], .st [.bool, .sl (.int .u64), .sl (.int .u64)]] [.st [.bool, .sl (.int .u64), .sl (.int .u64)], .int .i64] raAddF)] Tryz.f64 [.cell 4 34, .tmp 5] [.st [.bool, .sl (.int .u64), .sl (.int .u64)], .int .i64]
theorem raSub_s0 (r : Rec (dens [.st [.bool, .sl (.int .u64), .sl (.int .u64)], .int .i64])) (a : List AV) (b : List AV) : evT raSub_E raSub_h r 3000 false [.code (bodyOf Tryz.f64)] (T0 0 [.agg (etaL [.bool, .sl (.int .u64), .sl (.int .u64)] 0 a), .agg (etaL [.bool, .sl (.int .u64), .sl (.int .u64)] 0 b)]) [] = raSub_b0  a b := by kernel_rfl
theorem raSub_ev (k : Nat) (a : List AV) (b : List AV) : evM raSub_E raSub_h 3000 k [.code (bodyOf Tryz.f64)] (T0 0 [.agg (etaL [.bool, .sl (.int .u64), .sl (.int .u64)] 0 a), .agg (etaL [.bool, .sl (.int .u64), .sl (.int .u64)] 0 b)]) [] = raSub_b0  a b := by
  exact raSub_s0 _ a b
def raCmp_h : Nat → Option Head := hintOf []
def raCmp_b0  (a : List AV) (b : List AV) : Option (Int × Int) :=
  Option.bind
  (raRecCmpF
    ([AV.bool (AV.toBool (aget a 0)), AV.ints .u64 (AV.asInts (aget a 1)), AV.ints .u64 (AV.asInts (aget a 2))],
      [AV.bool (AV.toBool (aget b 0)), AV.ints .u64 (AV.asInts (aget b 1)), AV.ints .u64 (AV.asInts (aget b 2))],
      [AV.bool (AV.toBool (aget a 0)), AV.ints .u64 (AV.asInts (aget a 1)), AV.ints .u64 (AV.asInts (aget a 2))],
      [AV.bool (AV.toBool (aget b 0)), AV.ints .u64 (AV.asInts (aget b 1)), AV.ints .u64 (AV.asInts (aget b 2))], [AV.int .i64 (0 : Int)]))
  fun t =>
  bif !decide ((Prod.snd (Prod.snd (Prod.snd t))).2 = (0 : Int)) then some ((0 : Int), (Prod.snd (Prod.snd (Prod.snd t))).2)
  else some (AV.toInt (aget (Prod.snd (Prod.snd t)).1 0), (0 : Int))
noncomputable def raCmp_E : Env (dens [.int .i64, .int .i64]) := envOf S.tab [(84, mkGc (some (93, 3)) [.v (.st [.bool, .sl (.int .u64), .sl (.int .u64)]), .v (.st [.bool, .sl (.int .u64), .sl (.int .u64)]), .p 34 [.bool, .sl (.int .u64), .sl (.int .u64)], .p 34 [.bool, .sl (.int .u64), .sl (.int .u64)], .p 3 [.int .i64]] [.v (.st [.bool, .sl (.int .u64), .sl (.int .u64)]), .v (.int .i64)] raRecCmpF)] Tryz.f73 [4, 5] [.int .i64, .int .i64]
theorem raCmp_s0 (r : Rec (dens [.int .i64, .int .i64])) (a : List AV) (b : List AV) : evT raCmp_E raCmp_h r 3000 false [.code (bodyOf Tryz.f73)] (T0 0 [.agg (etaL [.bool, .sl (.int .u64), .sl (.int .u64)] 0 a), .agg (etaL [.bool, .sl (.int .u64), .sl (.int .u64)] 0 b)]) [] = raCmp_b0  a b := by kernel_rfl
theorem raCmp_ev (k : Nat) (a : List AV) (b : List AV) : evM raCmp_E raCmp_h 3000 k [.code (bodyOf Tryz.f73)] (T0 0 [.agg (etaL [.bool, .sl (.int .u64), .sl (.int .u64)] 0 a), .agg (etaL [.bool, .sl (.int .u64), .sl (.int .u64)] 0 b)]) [] = raCmp_b0  a b := by
  exact raCmp_s0 _ a b
def nVal_h : Nat → Option Head := hintOf []
def nVal_b0  (a : Int) : Option (List AV × Int) :=
  Option.bind (splF a) fun t =>
  bif !decide ((Prod.snd (Prod.snd t)).2 = (0 : Int)) then some ([AV.bool false, AV.ints .u64 [], AV.ints .u64 []], (60 : Int))
  else
    Option.bind (nFromF (Prod.snd t).1) fun t_1 =>
      Option.bind (nFromF (1 : Int)) fun t_2 =>
        bif decide ((Prod.snd (Prod.snd t)).1 < (0 : Int)) then
          Option.bind (nShlF (t_2, subI .i64 (0 : Int) (Prod.snd (Prod.snd t)).1)) fun t_3 =>
            Option.bind (raNewF (t.1, t_1, t_3.1)) fun t =>
              some ([AV.bool (AV.toBool (aget t.1 0)), AV.ints .u64 (AV.asInts (aget t.1 1)), AV.ints .u64 (AV.asInts (aget t.1 2))], t.2)
        else
          Option.bind (nShlF (t_1, (Prod.snd (Prod.snd t)).1)) fun t_3 =>
            Option.bind (raNewF (t.1, t_3.1, t_2)) fun t =>
              some ([AV.bool (AV.toBool (aget t.1 0)), AV.ints .u64 (AV.asInts (aget t.1 1)), AV.ints .u64 (AV.asInts (aget t.1 2))], t.2)
noncomputable def nVal_E : Env (dens [.st [.bool, .sl (.int .u64), .sl (.int .u64)], .int .i64]) := envR S.tab [(75, mkF [.int .u64] [.bool, .int .u64, .int .i64, .int .i64] splF), (76, mkF [.int .u64] [.sl (.int .u64)] nFromF), (77, mkF [.sl (.int .u64), .int .i64] [.sl (.int .u64), .int .i64] nShlF), (78, mkF [.bool, .sl (.int .u64), .sl (.int .u64)] [.st [.bool, .sl (.int .u64), .sl (.int .u64)], .int .i64] raNewF)] Tryz.f55 [.cell 2 34, .tmp 3] [.st [.bool, .sl (.int .u64), .sl (.int .u64)], .int .i64]
theorem nVal_s0 (r : Rec (dens [.st [.bool, .sl (.int .u64), .sl (.int .u64)], .int .i64])) (a : Int) : evT nVal_E nVal_h r 3000 false [.code (bodyOf Tryz.f55)] (T0 0 [.int .u64 a]) [] = nVal_b0  a := by kernel_rfl
theorem nVal_ev (k : Nat) (a : Int) : evM nVal_E nVal_h 3000 k [.code (bodyOf Tryz.f55)] (T0 0 [.int .u64 a]) [] = nVal_b0  a := by
  exact nVal_s0 _ a
end
end Go.RX.S
