/- What functions compute, printed. -/
import Derived.Test.YtciapojlnhiggaaGreatZSd
set_option linter.unusedVariables false
set_option linter.unusedSimpArgs false
namespace Go.RX.S
open Go Go.RX
noncomputable section
def wAdd_h : Nat → Option Head := hintOf []
def wAdd_b0  (a : Int) (b : Int) (c : Int) : Option (Int × Int) :=
  bif decide (addI IntKind.u64 a b < a) then some (addI IntKind.u64 (addI IntKind.u64 a b) (andI IntKind.u64 c (1 : Int)), (1 : Int))
else
  bif decide (addI IntKind.u64 (addI IntKind.u64 a b) (andI IntKind.u64 c (1 : Int)) < addI IntKind.u64 a b) then
    some (addI IntKind.u64 (addI IntKind.u64 a b) (andI IntKind.u64 c (1 : Int)), (1 : Int))
  else some (addI IntKind.u64 (addI IntKind.u64 a b) (andI IntKind.u64 c (1 : Int)), (0 : Int))
noncomputable def wAdd_E : Env (dens [.int .u64,.int .u64]) := envOf S.tab [] Go.Proofs.Tryz.f117 [6, 7] [.int .u64,.int .u64]
theorem wAdd_s0 (r : Rec (dens [.int .u64,.int .u64])) (a : Int) (b : Int) (c : Int) : evT wAdd_E wAdd_h r 3000 false [.code (bodyOf Go.Proofs.Tryz.f117)] (T0 0 [.int .u64 a, .int .u64 b, .int .u64 c]) [] = wAdd_b0  a b c := by kernel_rfl
theorem wAdd_ev (k : Nat) (a : Int) (b : Int) (c : Int) : evM wAdd_E wAdd_h 3000 k [.code (bodyOf Go.Proofs.Tryz.f117)] (T0 0 [.int .u64 a, .int .u64 b, .int .u64 c]) [] = wAdd_b0  a b c := by
  exact wAdd_s0 _ a b c
def wSub_h : Nat → Option Head := hintOf []
def wSub_b0  (a : Int) (b : Int) (c : Int) : Option (Int × Int) :=
  bif decide (a < b) then some (subI IntKind.u64 (subI IntKind.u64 a b) (andI IntKind.u64 c (1 : Int)), (1 : Int))
else
  bif decide (a = b) then
    bif decide (andI IntKind.u64 c (1 : Int) = (1 : Int)) then some (subI IntKind.u64 (subI IntKind.u64 a b) (andI IntKind.u64 c (1 : Int)), (1 : Int))
    else some (subI IntKind.u64 (subI IntKind.u64 a b) (andI IntKind.u64 c (1 : Int)), (0 : Int))
  else some (subI IntKind.u64 (subI IntKind.u64 a b) (andI IntKind.u64 c (1 : Int)), (0 : Int))
noncomputable def wSub_E : Env (dens [.int .u64,.int .u64]) := envOf S.tab [] Go.Proofs.Tryz.f111 [6, 7] [.int .u64,.int .u64]
theorem wSub_s0 (r : Rec (dens [.int .u64,.int .u64])) (a : Int) (b : Int) (c : Int) : evT wSub_E wSub_h r 3000 false [.code (bodyOf Go.Proofs.Tryz.f111)] (T0 0 [.int .u64 a, .int .u64 b, .int .u64 c]) [] = wSub_b0  a b c := by kernel_rfl
theorem wSub_ev (k : Nat) (a : Int) (b : Int) (c : Int) : evM wSub_E wSub_h 3000 k [.code (bodyOf Go.Proofs.Tryz.f111)] (T0 0 [.int .u64 a, .int .u64 b, .int .u64 c]) [] = wSub_b0  a b c := by
  exact wSub_s0 _ a b c
def wCmp_h : Nat → Option Head := hintOf []
def wCmp_b0  (a : Int) (b : Int) (c : Int) (d : Int) : Option (Int) :=
  bif decide (a < c) then some (-1 : Int)
else
  bif decide (a = c) then bif decide (b < d) then some (-1 : Int) else bif decide (a = c) then bif decide (b = d) then some (0 : Int) else some (1 : Int) else some (1 : Int)
  else bif decide (a = c) then bif decide (b = d) then some (0 : Int) else some (1 : Int) else some (1 : Int)
noncomputable def wCmp_E : Env (dens [.int .i64]) := envOf S.tab [] Go.Proofs.Tryz.f110 [8] [.int .i64]
theorem wCmp_s0 (r : Rec (dens [.int .i64])) (a : Int) (b : Int) (c : Int) (d : Int) : evT wCmp_E wCmp_h r 3000 false [.code (bodyOf Go.Proofs.Tryz.f110)] (T0 0 [.int .u64 a, .int .u64 b, .int .u64 c, .int .u64 d]) [] = wCmp_b0  a b c d := by kernel_rfl
theorem wCmp_ev (k : Nat) (a : Int) (b : Int) (c : Int) (d : Int) : evM wCmp_E wCmp_h 3000 k [.code (bodyOf Go.Proofs.Tryz.f110)] (T0 0 [.int .u64 a, .int .u64 b, .int .u64 c, .int .u64 d]) [] = wCmp_b0  a b c d := by
  exact wCmp_s0 _ a b c d
def wWithin_h : Nat → Option Head := hintOf []
def wWithin_b0  (n : Int) : Option (Int) :=
  some (minI (maxI n (0 : Int)) (128 : Int))
noncomputable def wWithin_E : Env (dens [.int .i64]) := envOf S.tab [] Go.Proofs.Tryz.f114 [2] [.int .i64]
theorem wWithin_s0 (r : Rec (dens [.int .i64])) (n : Int) : evT wWithin_E wWithin_h r 3000 false [.code (bodyOf Go.Proofs.Tryz.f114)] (T0 0 [.int .i64 n]) [] = wWithin_b0  n := by kernel_rfl
theorem wWithin_ev (k : Nat) (n : Int) : evM wWithin_E wWithin_h 3000 k [.code (bodyOf Go.Proofs.Tryz.f114)] (T0 0 [.int .i64 n]) [] = wWithin_b0  n := by
  exact wWithin_s0 _ n
def wLen_h : Nat → Option Head := hintOf [(6, ⟨[(0, .same), (3, .same), (4, .same)], 0⟩)]
def wLen_b0 (l6 : Int → Int → Int → Option Int) (a : Int) : Option (Int) :=
  l6 a (0 : Int) (32 : Int)
def wLen_b6 (l6 : Int → Int → Int → Option Int) (t0 : Int) (t3 : Int) (t4 : Int) : Option (Int) :=
  bif decide (t4 > (0 : Int)) then
  bif decide ((0 : Int) ≤ t4) then
    bif !decide (shrI IntKind.u64 t0 t4 = (0 : Int)) then bif decide ((0 : Int) ≤ t4) then l6 (shrI IntKind.u64 t0 t4) (addI IntKind.i64 t3 t4) (shrI IntKind.i64 t4 (1 : Int)) else none
    else l6 t0 t3 (shrI IntKind.i64 t4 (1 : Int))
  else none
else some (addI IntKind.i64 t3 (cvI IntKind.i64 t0))
mutual
def wLen_L6 : Nat → Int → Int → Int → Option (Int)
  | 0, _, _, _ => none
  | k + 1, t0, t3, t4 => wLen_b6 (wLen_L6 k) t0 t3 t4
end
noncomputable def wLen_E : Env (dens [.int .i64]) := envOf S.tab [] Go.Proofs.Tryz.f113 [2] [.int .i64]
theorem wLen_s0 (r : Rec (dens [.int .i64])) (a : Int) : evT wLen_E wLen_h r 3000 false [.code (bodyOf Go.Proofs.Tryz.f113)] (T0 0 [.int .u64 a]) [] = wLen_b0 (fun t0 t3 t4 => r (todoOf 6 (bodyOf Go.Proofs.Tryz.f113)) [((0 : Nat), AV.int IntKind.u64 t0), ((3 : Nat), AV.int IntKind.i64 t3), ((4 : Nat), AV.int IntKind.i64 t4)] []) a := by kernel_rfl
theorem wLen_s6 (r : Rec (dens [.int .i64])) (t0 : Int) (t3 : Int) (t4 : Int) : evT wLen_E wLen_h r 3000 true (todoOf 6 (bodyOf Go.Proofs.Tryz.f113)) [((0 : Nat), AV.int IntKind.u64 t0), ((3 : Nat), AV.int IntKind.i64 t3), ((4 : Nat), AV.int IntKind.i64 t4)] [] = wLen_b6 (fun t0 t3 t4 => r (todoOf 6 (bodyOf Go.Proofs.Tryz.f113)) [((0 : Nat), AV.int IntKind.u64 t0), ((3 : Nat), AV.int IntKind.i64 t3), ((4 : Nat), AV.int IntKind.i64 t4)] []) t0 t3 t4 := by kernel_rfl
theorem wLen_k : ∀ k, (∀ (t0 : Int) (t3 : Int) (t4 : Int), evK wLen_E wLen_h 3000 k (todoOf 6 (bodyOf Go.Proofs.Tryz.f113)) [((0 : Nat), AV.int IntKind.u64 t0), ((3 : Nat), AV.int IntKind.i64 t3), ((4 : Nat), AV.int IntKind.i64 t4)] [] = wLen_L6 k t0 t3 t4)
  | 0 => by
    refine ?_ <;> intros <;> rfl
  | k + 1 => by
    have ih := wLen_k k
    refine ?_ <;> intros
    · exact ((wLen_s6 _ _ _ _).trans (by simp only [ih] <;> rfl))
theorem wLen_ev (k : Nat) (a : Int) : evM wLen_E wLen_h 3000 k [.code (bodyOf Go.Proofs.Tryz.f113)] (T0 0 [.int .u64 a]) [] = wLen_b0 (wLen_L6 k) a := by
  refine (wLen_s0 _ a).trans ?_
  simp only [wLen_k k] <;> rfl
def wShl_h : Nat → Option Head := hintOf []
def wShl_b0  (a : Int) (b : Int) (n : Int) : Option (Int × Int) :=
  Option.bind (wWithinF n) fun t =>
  bif decide (t ≥ (64 : Int)) then bif decide ((0 : Int) ≤ subI IntKind.i64 t (64 : Int)) then some (shlI IntKind.u64 b (subI IntKind.i64 t (64 : Int)), (0 : Int)) else none
  else
    bif decide ((0 : Int) ≤ t) then
      bif decide ((0 : Int) ≤ subI IntKind.i64 (64 : Int) t) then
        bif decide ((0 : Int) ≤ t) then some (orI IntKind.u64 (shlI IntKind.u64 a t) (shrI IntKind.u64 b (subI IntKind.i64 (64 : Int) t)), shlI IntKind.u64 b t) else none
      else none
    else none
noncomputable def wShl_E : Env (dens [.int .u64,.int .u64]) := envOf S.tab [(114, mkF [.int .i64] [.int .i64] wWithinF)] Go.Proofs.Tryz.f101 [6, 7] [.int .u64,.int .u64]
theorem wShl_s0 (r : Rec (dens [.int .u64,.int .u64])) (a : Int) (b : Int) (n : Int) : evT wShl_E wShl_h r 3000 false [.code (bodyOf Go.Proofs.Tryz.f101)] (T0 0 [.int .u64 a, .int .u64 b, .int .i64 n]) [] = wShl_b0  a b n := by kernel_rfl
theorem wShl_ev (k : Nat) (a : Int) (b : Int) (n : Int) : evM wShl_E wShl_h 3000 k [.code (bodyOf Go.Proofs.Tryz.f101)] (T0 0 [.int .u64 a, .int .u64 b, .int .i64 n]) [] = wShl_b0  a b n := by
  exact wShl_s0 _ a b n
def wShr_h : Nat → Option Head := hintOf []
def wShr_b0  (a : Int) (b : Int) (n : Int) : Option (Int × Int × Bool) :=
  Option.bind (wWithinF n) fun t =>
  bif decide (t ≥ (64 : Int)) then
    bif !decide (b = (0 : Int)) then bif decide ((0 : Int) ≤ subI IntKind.i64 t (64 : Int)) then some ((0 : Int), shrI IntKind.u64 a (subI IntKind.i64 t (64 : Int)), true) else none
    else
      bif decide ((0 : Int) ≤ subI IntKind.i64 (128 : Int) t) then
        bif decide ((0 : Int) ≤ subI IntKind.i64 t (64 : Int)) then
          some ((0 : Int), shrI IntKind.u64 a (subI IntKind.i64 t (64 : Int)), !decide (shlI IntKind.u64 a (subI IntKind.i64 (128 : Int) t) = (0 : Int)))
        else none
      else none
  else
    bif decide ((0 : Int) ≤ t) then
      bif decide ((0 : Int) ≤ t) then
        bif decide ((0 : Int) ≤ subI IntKind.i64 (64 : Int) t) then
          bif decide ((0 : Int) ≤ subI IntKind.i64 (64 : Int) t) then
            some
              (shrI IntKind.u64 a t, orI IntKind.u64 (shrI IntKind.u64 b t) (shlI IntKind.u64 a (subI IntKind.i64 (64 : Int) t)),
                !decide (shlI IntKind.u64 b (subI IntKind.i64 (64 : Int) t) = (0 : Int)))
          else none
        else none
      else none
    else none
noncomputable def wShr_E : Env (dens [.int .u64,.int .u64,.bool]) := envOf S.tab [(114, mkF [.int .i64] [.int .i64] wWithinF)] Go.Proofs.Tryz.f126 [6, 7, 8] [.int .u64,.int .u64,.bool]
theorem wShr_s0 (r : Rec (dens [.int .u64,.int .u64,.bool])) (a : Int) (b : Int) (n : Int) : evT wShr_E wShr_h r 3000 false [.code (bodyOf Go.Proofs.Tryz.f126)] (T0 0 [.int .u64 a, .int .u64 b, .int .i64 n]) [] = wShr_b0  a b n := by kernel_rfl
theorem wShr_ev (k : Nat) (a : Int) (b : Int) (n : Int) : evM wShr_E wShr_h 3000 k [.code (bodyOf Go.Proofs.Tryz.f126)] (T0 0 [.int .u64 a, .int .u64 b, .int .i64 n]) [] = wShr_b0  a b n := by
  exact wShr_s0 _ a b n
def wMul_h : Nat → Option Head := hintOf []
def wMul_b0  (a : Int) (b : Int) : Option (Int × Int) :=
  some
  (orI IntKind.u64
      (shlI IntKind.u64
        (shrI IntKind.u64
          (addI IntKind.u64
            (addI IntKind.u64 (mulI IntKind.u64 (shrI IntKind.u64 a (32 : Int)) (shrI IntKind.u64 b (32 : Int)))
              (shrI IntKind.u64
                (addI IntKind.u64 (addI IntKind.u64 (mulI IntKind.u64 (andI IntKind.u64 a (4294967295 : Int)) (shrI IntKind.u64 b (32 : Int))) (0 : Int))
                  (shrI IntKind.u64 (addI IntKind.u64 (addI IntKind.u64 (mulI IntKind.u64 (andI IntKind.u64 a (4294967295 : Int)) (andI IntKind.u64 b (4294967295 : Int))) (0 : Int)) (0 : Int))
                    (32 : Int)))
                (32 : Int)))
            (shrI IntKind.u64
              (addI IntKind.u64
                (addI IntKind.u64 (mulI IntKind.u64 (shrI IntKind.u64 a (32 : Int)) (andI IntKind.u64 b (4294967295 : Int)))
                  (andI IntKind.u64
                    (addI IntKind.u64 (addI IntKind.u64 (mulI IntKind.u64 (andI IntKind.u64 a (4294967295 : Int)) (shrI IntKind.u64 b (32 : Int))) (0 : Int))
                      (shrI IntKind.u64 (addI IntKind.u64 (addI IntKind.u64 (mulI IntKind.u64 (andI IntKind.u64 a (4294967295 : Int)) (andI IntKind.u64 b (4294967295 : Int))) (0 : Int)) (0 : Int))
                        (32 : Int)))
                    (4294967295 : Int)))
                (0 : Int))
              (32 : Int)))
          (32 : Int))
        (32 : Int))
      (andI IntKind.u64
        (addI IntKind.u64
          (addI IntKind.u64 (mulI IntKind.u64 (shrI IntKind.u64 a (32 : Int)) (shrI IntKind.u64 b (32 : Int)))
            (shrI IntKind.u64
              (addI IntKind.u64 (addI IntKind.u64 (mulI IntKind.u64 (andI IntKind.u64 a (4294967295 : Int)) (shrI IntKind.u64 b (32 : Int))) (0 : Int))
                (shrI IntKind.u64 (addI IntKind.u64 (addI IntKind.u64 (mulI IntKind.u64 (andI IntKind.u64 a (4294967295 : Int)) (andI IntKind.u64 b (4294967295 : Int))) (0 : Int)) (0 : Int))
                  (32 : Int)))
              (32 : Int)))
          (shrI IntKind.u64
            (addI IntKind.u64
              (addI IntKind.u64 (mulI IntKind.u64 (shrI IntKind.u64 a (32 : Int)) (andI IntKind.u64 b (4294967295 : Int)))
                (andI IntKind.u64
                  (addI IntKind.u64 (addI IntKind.u64 (mulI IntKind.u64 (andI IntKind.u64 a (4294967295 : Int)) (shrI IntKind.u64 b (32 : Int))) (0 : Int))
                    (shrI IntKind.u64 (addI IntKind.u64 (addI IntKind.u64 (mulI IntKind.u64 (andI IntKind.u64 a (4294967295 : Int)) (andI IntKind.u64 b (4294967295 : Int))) (0 : Int)) (0 : Int))
                      (32 : Int)))
                  (4294967295 : Int)))
              (0 : Int))
            (32 : Int)))
        (4294967295 : Int)),
    orI IntKind.u64
      (shlI IntKind.u64
        (andI IntKind.u64
          (addI IntKind.u64
            (addI IntKind.u64 (mulI IntKind.u64 (shrI IntKind.u64 a (32 : Int)) (andI IntKind.u64 b (4294967295 : Int)))
              (andI IntKind.u64
                (addI IntKind.u64 (addI IntKind.u64 (mulI IntKind.u64 (andI IntKind.u64 a (4294967295 : Int)) (shrI IntKind.u64 b (32 : Int))) (0 : Int))
                  (shrI IntKind.u64 (addI IntKind.u64 (addI IntKind.u64 (mulI IntKind.u64 (andI IntKind.u64 a (4294967295 : Int)) (andI IntKind.u64 b (4294967295 : Int))) (0 : Int)) (0 : Int))
                    (32 : Int)))
                (4294967295 : Int)))
            (0 : Int))
          (4294967295 : Int))
        (32 : Int))
      (andI IntKind.u64 (addI IntKind.u64 (addI IntKind.u64 (mulI IntKind.u64 (andI IntKind.u64 a (4294967295 : Int)) (andI IntKind.u64 b (4294967295 : Int))) (0 : Int)) (0 : Int))
        (4294967295 : Int)))
noncomputable def wMul_E : Env (dens [.int .u64,.int .u64]) := envOf S.tab [] Go.Proofs.Tryz.f116 [4, 5] [.int .u64,.int .u64]
theorem wMul_s0 (r : Rec (dens [.int .u64,.int .u64])) (a : Int) (b : Int) : evT wMul_E wMul_h r 3000 false [.code (bodyOf Go.Proofs.Tryz.f116)] (T0 0 [.int .u64 a, .int .u64 b]) [] = wMul_b0  a b := by kernel_rfl
theorem wMul_ev (k : Nat) (a : Int) (b : Int) : evM wMul_E wMul_h 3000 k [.code (bodyOf Go.Proofs.Tryz.f116)] (T0 0 [.int .u64 a, .int .u64 b]) [] = wMul_b0  a b := by
  exact wMul_s0 _ a b
def nSize_h : Nat → Option Head := hintOf [(4, ⟨[(0, .same), (3, .same)], 0⟩)]
def nSize_b0 (l4 : List Int → Int → Option Int) (a : List Int) : Option (Int) :=
  l4 a (↑(List.length a) : Int)
def nSize_b4 (l4 : List Int → Int → Option Int) (t0 : List Int) (t3 : Int) : Option (Int) :=
  bif decide (t3 > (0 : Int)) then
  bif inRange (subI IntKind.i64 t3 (1 : Int)) (List.length t0) then bif decide (rdI t0 (subI IntKind.i64 t3 (1 : Int)) = (0 : Int)) then l4 t0 (subI IntKind.i64 t3 (1 : Int)) else some t3 else none
else some t3
mutual
def nSize_L4 : Nat → (List Int) → Int → Option (Int)
  | 0, _, _ => none
  | k + 1, t0, t3 => nSize_b4 (nSize_L4 k) t0 t3
end
noncomputable def nSize_E : Env (dens [.int .i64]) := envOf S.tab [] Go.Proofs.Tryz.f99 [2] [.int .i64]
theorem nSize_s0 (r : Rec (dens [.int .i64])) (a : List Int) : evT nSize_E nSize_h r 3000 false [.code (bodyOf Go.Proofs.Tryz.f99)] (T0 0 [.ints .u64 a]) [] = nSize_b0 (fun t0 t3 => r (todoOf 4 (bodyOf Go.Proofs.Tryz.f99)) [((0 : Nat), AV.ints IntKind.u64 t0), ((3 : Nat), AV.int IntKind.i64 t3)] []) a := by kernel_rfl
theorem nSize_s4 (r : Rec (dens [.int .i64])) (t0 : List Int) (t3 : Int) : evT nSize_E nSize_h r 3000 true (todoOf 4 (bodyOf Go.Proofs.Tryz.f99)) [((0 : Nat), AV.ints IntKind.u64 t0), ((3 : Nat), AV.int IntKind.i64 t3)] [] = nSize_b4 (fun t0 t3 => r (todoOf 4 (bodyOf Go.Proofs.Tryz.f99)) [((0 : Nat), AV.ints IntKind.u64 t0), ((3 : Nat), AV.int IntKind.i64 t3)] []) t0 t3 := by kernel_rfl
theorem nSize_k : ∀ k, (∀ (t0 : List Int) (t3 : Int), evK nSize_E nSize_h 3000 k (todoOf 4 (bodyOf Go.Proofs.Tryz.f99)) [((0 : Nat), AV.ints IntKind.u64 t0), ((3 : Nat), AV.int IntKind.i64 t3)] [] = nSize_L4 k t0 t3)
  | 0 => by
    refine ?_ <;> intros <;> rfl
  | k + 1 => by
    have ih := nSize_k k
    refine ?_ <;> intros
    · exact ((nSize_s4 _ _ _).trans (by simp only [ih] <;> rfl))
theorem nSize_ev (k : Nat) (a : List Int) : evM nSize_E nSize_h 3000 k [.code (bodyOf Go.Proofs.Tryz.f99)] (T0 0 [.ints .u64 a]) [] = nSize_b0 (nSize_L4 k) a := by
  refine (nSize_s0 _ a).trans ?_
  simp only [nSize_k k] <;> rfl
def nNorm_h : Nat → Option Head := hintOf []
def nNorm_b0  (a : List Int) : Option (List Int) :=
  Option.bind (nSizeF a) fun t =>
  bif bif decide ((0 : Int) ≤ t) then decide (t * (8 : Int) ≤ (281474976710656 : Int)) else false then
    some (splice (List.replicate (Int.toNat t) (0 : Int)) (nat_lit 0) (List.take (List.length (List.replicate (Int.toNat t) (0 : Int))) a))
  else none
noncomputable def nNorm_E : Env (List Int) := envN S.tab [(99, mkF [.sl (.int .u64)] [.int .i64] nSizeF)] Go.Proofs.Tryz.f98 [2] 22 .u64
theorem nNorm_s0 (r : Rec (List Int)) (a : List Int) : evT nNorm_E nNorm_h r 3000 false [.code (bodyOf Go.Proofs.Tryz.f98)] (T0 0 [.ints .u64 a]) [] = nNorm_b0  a := by kernel_rfl
theorem nNorm_ev (k : Nat) (a : List Int) : evM nNorm_E nNorm_h 3000 k [.code (bodyOf Go.Proofs.Tryz.f98)] (T0 0 [.ints .u64 a]) [] = nNorm_b0  a := by
  exact nNorm_s0 _ a
def nBound_h : Nat → Option Head := hintOf []
def nBound_b0  (a : List Int) : Option (List Int × Int) :=
  Option.bind (nSizeF a) fun t =>
  bif decide (t ≤ (4096 : Int)) then
    bif bif bif decide ((0 : Int) ≤ t) then decide (t ≤ t) else false then decide (t ≤ (↑(List.length a) : Int)) else false then some (List.take (Int.toNat t) a, (0 : Int)) else none
  else some ([], (21 : Int))
noncomputable def nBound_E : Env (dens [.sl (.int .u64),.int .i64]) := envOf S.tab [(99, mkF [.sl (.int .u64)] [.int .i64] nSizeF)] Go.Proofs.Tryz.f102 [2, 3] [.sl (.int .u64),.int .i64]
theorem nBound_s0 (r : Rec (dens [.sl (.int .u64),.int .i64])) (a : List Int) : evT nBound_E nBound_h r 3000 false [.code (bodyOf Go.Proofs.Tryz.f102)] (T0 0 [.ints .u64 a]) [] = nBound_b0  a := by kernel_rfl
theorem nBound_ev (k : Nat) (a : List Int) : evM nBound_E nBound_h 3000 k [.code (bodyOf Go.Proofs.Tryz.f102)] (T0 0 [.ints .u64 a]) [] = nBound_b0  a := by
  exact nBound_s0 _ a
def nFrom_h : Nat → Option Head := hintOf []
def nFrom_b0  (a : Int) : Option (List Int) :=
  Option.bind (nNormF [a]) fun t => some t
noncomputable def nFrom_E : Env (dens [.sl (.int .u64)]) := envOf S.tab [(98, mkN [.sl (.int .u64)] 22 .u64 nNormF)] Go.Proofs.Tryz.f76 [2] [.sl (.int .u64)]
theorem nFrom_s0 (r : Rec (dens [.sl (.int .u64)])) (a : Int) : evT nFrom_E nFrom_h r 3000 false [.code (bodyOf Go.Proofs.Tryz.f76)] (T0 0 [.int .u64 a]) [] = nFrom_b0  a := by kernel_rfl
theorem nFrom_ev (k : Nat) (a : Int) : evM nFrom_E nFrom_h 3000 k [.code (bodyOf Go.Proofs.Tryz.f76)] (T0 0 [.int .u64 a]) [] = nFrom_b0  a := by
  exact nFrom_s0 _ a
def nWord_h : Nat → Option Head := hintOf []
def nWord_b0  (a : List Int) : Option (Int × Bool) :=
  Option.bind (nSizeF a) fun t =>
  bif decide (t = (0 : Int)) then some ((0 : Int), true)
  else bif decide (t = (1 : Int)) then bif inRange (0 : Int) (List.length a) then some (rdI a (0 : Int), true) else none else some ((0 : Int), false)
noncomputable def nWord_E : Env (dens [.int .u64,.bool]) := envOf S.tab [(99, mkF [.sl (.int .u64)] [.int .i64] nSizeF)] Go.Proofs.Tryz.f104 [2, 3] [.int .u64,.bool]
theorem nWord_s0 (r : Rec (dens [.int .u64,.bool])) (a : List Int) : evT nWord_E nWord_h r 3000 false [.code (bodyOf Go.Proofs.Tryz.f104)] (T0 0 [.ints .u64 a]) [] = nWord_b0  a := by kernel_rfl
theorem nWord_ev (k : Nat) (a : List Int) : evM nWord_E nWord_h 3000 k [.code (bodyOf Go.Proofs.Tryz.f104)] (T0 0 [.ints .u64 a]) [] = nWord_b0  a := by
  exact nWord_s0 _ a
def nCmp_h : Nat → Option Head := hintOf [(14, ⟨[(0, .same), (1, .same), (7, .same)], 0⟩)]
def nCmp_b0 (l14 : List Int → List Int → Int → Option Int) (a : List Int) (b : List Int) : Option (Int) :=
  Option.bind (nSizeF a) fun t => Option.bind (nSizeF b) fun t_1 => bif !decide (t = t_1) then bif decide (t < t_1) then some (-1 : Int) else some (1 : Int) else l14 a b (subI IntKind.i64 t (1 : Int))
def nCmp_b14 (l14 : List Int → List Int → Int → Option Int) (t0 : List Int) (t1 : List Int) (t7 : Int) : Option (Int) :=
  bif decide (t7 ≥ (0 : Int)) then
  bif inRange t7 (List.length t0) then
    bif inRange t7 (List.length t1) then
      Option.bind (wCmpF ((0 : Int), rdI t0 t7, (0 : Int), rdI t1 t7)) fun t => bif !decide (t = (0 : Int)) then some t else l14 t0 t1 (subI IntKind.i64 t7 (1 : Int))
    else none
  else none
else some (0 : Int)
mutual
def nCmp_L14 : Nat → (List Int) → (List Int) → Int → Option (Int)
  | 0, _, _, _ => none
  | k + 1, t0, t1, t7 => nCmp_b14 (nCmp_L14 k) t0 t1 t7
end
noncomputable def nCmp_E : Env (dens [.int .i64]) := envOf S.tab [(99, mkF [.sl (.int .u64)] [.int .i64] nSizeF),(110, mkF [.int .u64,.int .u64,.int .u64,.int .u64] [.int .i64] wCmpF)] Go.Proofs.Tryz.f91 [4] [.int .i64]
theorem nCmp_s0 (r : Rec (dens [.int .i64])) (a : List Int) (b : List Int) : evT nCmp_E nCmp_h r 3000 false [.code (bodyOf Go.Proofs.Tryz.f91)] (T0 0 [.ints .u64 a, .ints .u64 b]) [] = nCmp_b0 (fun t0 t1 t7 => r (todoOf 14 (bodyOf Go.Proofs.Tryz.f91)) [((0 : Nat), AV.ints IntKind.u64 t0), ((1 : Nat), AV.ints IntKind.u64 t1), ((7 : Nat), AV.int IntKind.i64 t7)] []) a b := by kernel_rfl
theorem nCmp_s14 (r : Rec (dens [.int .i64])) (t0 : List Int) (t1 : List Int) (t7 : Int) : evT nCmp_E nCmp_h r 3000 true (todoOf 14 (bodyOf Go.Proofs.Tryz.f91)) [((0 : Nat), AV.ints IntKind.u64 t0), ((1 : Nat), AV.ints IntKind.u64 t1), ((7 : Nat), AV.int IntKind.i64 t7)] [] = nCmp_b14 (fun t0 t1 t7 => r (todoOf 14 (bodyOf Go.Proofs.Tryz.f91)) [((0 : Nat), AV.ints IntKind.u64 t0), ((1 : Nat), AV.ints IntKind.u64 t1), ((7 : Nat), AV.int IntKind.i64 t7)] []) t0 t1 t7 := by kernel_rfl
theorem nCmp_k : ∀ k, (∀ (t0 : List Int) (t1 : List Int) (t7 : Int), evK nCmp_E nCmp_h 3000 k (todoOf 14 (bodyOf Go.Proofs.Tryz.f91)) [((0 : Nat), AV.ints IntKind.u64 t0), ((1 : Nat), AV.ints IntKind.u64 t1), ((7 : Nat), AV.int IntKind.i64 t7)] [] = nCmp_L14 k t0 t1 t7)
  | 0 => by
    refine ?_ <;> intros <;> rfl
  | k + 1 => by
    have ih := nCmp_k k
    refine ?_ <;> intros
    · exact ((nCmp_s14 _ _ _ _).trans (by simp only [ih] <;> rfl))
theorem nCmp_ev (k : Nat) (a : List Int) (b : List Int) : evM nCmp_E nCmp_h 3000 k [.code (bodyOf Go.Proofs.Tryz.f91)] (T0 0 [.ints .u64 a, .ints .u64 b]) [] = nCmp_b0 (nCmp_L14 k) a b := by
  refine (nCmp_s0 _ a b).trans ?_
  simp only [nCmp_k k] <;> rfl
def nsum_h : Nat → Option Head := hintOf [(14, ⟨[(1, .same), (5, .same), (6, .same), (24, .same), (25, .same), (26, .same)], 1⟩), (24, ⟨[(5, .same), (6, .same), (9, .same)], 1⟩)]
def nsum_b0 (l14 : List Int → Int → List Int → Int → Int → List Int → Option (List Int)) (l24 : Int → Int → List Int → Option (List Int)) (a : List Int) (b : List Int) : Option (List Int) :=
  bif decide ((↑(List.length a) : Int) < (↑(List.length b) : Int)) then
  bif
      bif decide ((0 : Int) ≤ addI IntKind.i64 (↑(List.length b) : Int) (1 : Int)) then decide (addI IntKind.i64 (↑(List.length b) : Int) (1 : Int) * (8 : Int) ≤ (281474976710656 : Int))
      else false then
    l14 a (0 : Int) a (↑(List.length a) : Int) (0 : Int)
      (splice (List.replicate (Int.toNat (addI IntKind.i64 (↑(List.length b) : Int) (1 : Int))) (0 : Int)) (nat_lit 0)
        (List.take (List.length (List.replicate (Int.toNat (addI IntKind.i64 (↑(List.length b) : Int) (1 : Int))) (0 : Int))) b))
  else none
else
  bif
      bif decide ((0 : Int) ≤ addI IntKind.i64 (↑(List.length a) : Int) (1 : Int)) then decide (addI IntKind.i64 (↑(List.length a) : Int) (1 : Int) * (8 : Int) ≤ (281474976710656 : Int))
      else false then
    l14 b (0 : Int) b (↑(List.length b) : Int) (0 : Int)
      (splice (List.replicate (Int.toNat (addI IntKind.i64 (↑(List.length a) : Int) (1 : Int))) (0 : Int)) (nat_lit 0)
        (List.take (List.length (List.replicate (Int.toNat (addI IntKind.i64 (↑(List.length a) : Int) (1 : Int))) (0 : Int))) a))
  else none
def nsum_b14 (l14 : List Int → Int → List Int → Int → Int → List Int → Option (List Int)) (l24 : Int → Int → List Int → Option (List Int)) (t1 : List Int) (t6 : Int) (t24 : List Int) (t25 : Int) (t26 : Int) (h0 : List Int) : Option (List Int) :=
  bif decide (t26 < t25) then
  bif inRange t26 (List.length t24) then
    bif inRange t26 (List.length h0) then
      Option.bind (wAddF (rdN h0 (Int.toNat t26), rdI t24 t26, t6)) fun t =>
        bif inRange t26 (List.length h0) then l14 t1 t.2 t24 t25 (addI IntKind.i64 t26 (1 : Int)) (wrI h0 (Int.toNat t26) t.1) else none
    else none
  else none
else l24 t6 (↑(List.length t1) : Int) h0
def nsum_b24 (l14 : List Int → Int → List Int → Int → Int → List Int → Option (List Int)) (l24 : Int → Int → List Int → Option (List Int)) (t6 : Int) (t9 : Int) (h0 : List Int) : Option (List Int) :=
  bif decide (t6 > (0 : Int)) then
  bif inRange t9 (List.length h0) then
    Option.bind (wAddF (rdN h0 (Int.toNat t9), (0 : Int), t6)) fun t => bif inRange t9 (List.length h0) then l24 t.2 (addI IntKind.i64 t9 (1 : Int)) (wrI h0 (Int.toNat t9) t.1) else none
  else none
else some h0
mutual
def nsum_L14 : Nat → (List Int) → Int → (List Int) → Int → Int → (List Int) → Option (List Int)
  | 0, _, _, _, _, _, _ => none
  | k + 1, t1, t6, t24, t25, t26, h0 => nsum_b14 (nsum_L14 k) (nsum_L24 k) t1 t6 t24 t25 t26 h0
def nsum_L24 : Nat → Int → Int → (List Int) → Option (List Int)
  | 0, _, _, _ => none
  | k + 1, t6, t9, h0 => nsum_b24 (nsum_L14 k) (nsum_L24 k) t6 t9 h0
end
noncomputable def nsum_E : Env (dens [.sl (.int .u64)]) := envOf S.tab [(117, mkF [.int .u64,.int .u64,.int .u64] [.int .u64,.int .u64] wAddF)] Go.Proofs.Tryz.f109 [4] [.sl (.int .u64)]
theorem nsum_s0 (r : Rec (dens [.sl (.int .u64)])) (a : List Int) (b : List Int) : evT nsum_E nsum_h r 3000 false [.code (bodyOf Go.Proofs.Tryz.f109)] (T0 0 [.ints .u64 a, .ints .u64 b]) [] = nsum_b0 (fun t1 t6 t24 t25 t26 h0 => r (todoOf 14 (bodyOf Go.Proofs.Tryz.f109)) [((1 : Nat), AV.ints IntKind.u64 t1), ((5 : Nat), AV.vec (nat_lit 0) (nat_lit 1)), ((6 : Nat), AV.int IntKind.u64 t6), ((24 : Nat), AV.ints IntKind.u64 t24), ((25 : Nat), AV.int IntKind.i64 t25),
  ((26 : Nat), AV.int IntKind.i64 t26)] [Blk.I 22 IntKind.u64 h0]) (fun t6 t9 h0 => r (todoOf 24 (bodyOf Go.Proofs.Tryz.f109)) [((5 : Nat), AV.vec (nat_lit 0) (nat_lit 1)), ((6 : Nat), AV.int IntKind.u64 t6), ((9 : Nat), AV.int IntKind.i64 t9)] [Blk.I 22 IntKind.u64 h0]) a b := by kernel_rfl
theorem nsum_s14 (r : Rec (dens [.sl (.int .u64)])) (t1 : List Int) (t6 : Int) (t24 : List Int) (t25 : Int) (t26 : Int) (h0 : List Int) : evT nsum_E nsum_h r 3000 true (todoOf 14 (bodyOf Go.Proofs.Tryz.f109)) [((1 : Nat), AV.ints IntKind.u64 t1), ((5 : Nat), AV.vec (nat_lit 0) (nat_lit 1)), ((6 : Nat), AV.int IntKind.u64 t6), ((24 : Nat), AV.ints IntKind.u64 t24), ((25 : Nat), AV.int IntKind.i64 t25),
  ((26 : Nat), AV.int IntKind.i64 t26)] [Blk.I 22 IntKind.u64 h0] = nsum_b14 (fun t1 t6 t24 t25 t26 h0 => r (todoOf 14 (bodyOf Go.Proofs.Tryz.f109)) [((1 : Nat), AV.ints IntKind.u64 t1), ((5 : Nat), AV.vec (nat_lit 0) (nat_lit 1)), ((6 : Nat), AV.int IntKind.u64 t6), ((24 : Nat), AV.ints IntKind.u64 t24), ((25 : Nat), AV.int IntKind.i64 t25),
  ((26 : Nat), AV.int IntKind.i64 t26)] [Blk.I 22 IntKind.u64 h0]) (fun t6 t9 h0 => r (todoOf 24 (bodyOf Go.Proofs.Tryz.f109)) [((5 : Nat), AV.vec (nat_lit 0) (nat_lit 1)), ((6 : Nat), AV.int IntKind.u64 t6), ((9 : Nat), AV.int IntKind.i64 t9)] [Blk.I 22 IntKind.u64 h0]) t1 t6 t24 t25 t26 h0 := by kernel_rfl
theorem nsum_s24 (r : Rec (dens [.sl (.int .u64)])) (t6 : Int) (t9 : Int) (h0 : List Int) : evT nsum_E nsum_h r 3000 true (todoOf 24 (bodyOf Go.Proofs.Tryz.f109)) [((5 : Nat), AV.vec (nat_lit 0) (nat_lit 1)), ((6 : Nat), AV.int IntKind.u64 t6), ((9 : Nat), AV.int IntKind.i64 t9)] [Blk.I 22 IntKind.u64 h0] = nsum_b24 (fun t1 t6 t24 t25 t26 h0 => r (todoOf 14 (bodyOf Go.Proofs.Tryz.f109)) [((1 : Nat), AV.ints IntKind.u64 t1), ((5 : Nat), AV.vec (nat_lit 0) (nat_lit 1)), ((6 : Nat), AV.int IntKind.u64 t6), ((24 : Nat), AV.ints IntKind.u64 t24), ((25 : Nat), AV.int IntKind.i64 t25),
  ((26 : Nat), AV.int IntKind.i64 t26)] [Blk.I 22 IntKind.u64 h0]) (fun t6 t9 h0 => r (todoOf 24 (bodyOf Go.Proofs.Tryz.f109)) [((5 : Nat), AV.vec (nat_lit 0) (nat_lit 1)), ((6 : Nat), AV.int IntKind.u64 t6), ((9 : Nat), AV.int IntKind.i64 t9)] [Blk.I 22 IntKind.u64 h0]) t6 t9 h0 := by kernel_rfl
theorem nsum_k : ∀ k, (∀ (t1 : List Int) (t6 : Int) (t24 : List Int) (t25 : Int) (t26 : Int) (h0 : List Int), evK nsum_E nsum_h 3000 k (todoOf 14 (bodyOf Go.Proofs.Tryz.f109)) [((1 : Nat), AV.ints IntKind.u64 t1), ((5 : Nat), AV.vec (nat_lit 0) (nat_lit 1)), ((6 : Nat), AV.int IntKind.u64 t6), ((24 : Nat), AV.ints IntKind.u64 t24), ((25 : Nat), AV.int IntKind.i64 t25),
  ((26 : Nat), AV.int IntKind.i64 t26)] [Blk.I 22 IntKind.u64 h0] = nsum_L14 k t1 t6 t24 t25 t26 h0) ∧ (∀ (t6 : Int) (t9 : Int) (h0 : List Int), evK nsum_E nsum_h 3000 k (todoOf 24 (bodyOf Go.Proofs.Tryz.f109)) [((5 : Nat), AV.vec (nat_lit 0) (nat_lit 1)), ((6 : Nat), AV.int IntKind.u64 t6), ((9 : Nat), AV.int IntKind.i64 t9)] [Blk.I 22 IntKind.u64 h0] = nsum_L24 k t6 t9 h0)
  | 0 => by
    refine ⟨?_, ?_⟩ <;> intros <;> rfl
  | k + 1 => by
    have ih := nsum_k k
    refine ⟨?_, ?_⟩ <;> intros
    · exact ((nsum_s14 _ _ _ _ _ _ _).trans (by simp only [ih] <;> rfl))
    · exact ((nsum_s24 _ _ _ _).trans (by simp only [ih] <;> rfl))
theorem nsum_ev (k : Nat) (a : List Int) (b : List Int) : evM nsum_E nsum_h 3000 k [.code (bodyOf Go.Proofs.Tryz.f109)] (T0 0 [.ints .u64 a, .ints .u64 b]) [] = nsum_b0 (nsum_L14 k) (nsum_L24 k) a b := by
  refine (nsum_s0 _ a b).trans ?_
  simp only [nsum_k k] <;> rfl
def nAdd_h : Nat → Option Head := hintOf []
def nAdd_b0  (a : List Int) (b : List Int) : Option (List Int × Int) :=
  Option.bind (nsumF (a, b)) fun t => Option.bind (nBoundF t) fun t => some (t.1, t.2)
noncomputable def nAdd_E : Env (dens [.sl (.int .u64),.int .i64]) := envOf S.tab [(109, mkF [.sl (.int .u64),.sl (.int .u64)] [.sl (.int .u64)] nsumF),(102, mkF [.sl (.int .u64)] [.sl (.int .u64),.int .i64] nBoundF)] Go.Proofs.Tryz.f90 [4, 5] [.sl (.int .u64),.int .i64]
theorem nAdd_s0 (r : Rec (dens [.sl (.int .u64),.int .i64])) (a : List Int) (b : List Int) : evT nAdd_E nAdd_h r 3000 false [.code (bodyOf Go.Proofs.Tryz.f90)] (T0 0 [.ints .u64 a, .ints .u64 b]) [] = nAdd_b0  a b := by kernel_rfl
theorem nAdd_ev (k : Nat) (a : List Int) (b : List Int) : evM nAdd_E nAdd_h 3000 k [.code (bodyOf Go.Proofs.Tryz.f90)] (T0 0 [.ints .u64 a, .ints .u64 b]) [] = nAdd_b0  a b := by
  exact nAdd_s0 _ a b
def nSub_h : Nat → Option Head := hintOf [(12, ⟨[(1, .same), (6, .same), (7, .same), (17, .same), (18, .same)], 1⟩)]
def nSub_b0 (l12 : List Int → Int → Int → Int → List Int → Option (List Int × Int)) (a : List Int) (b : List Int) : Option (List Int × Int) :=
  Option.bind (nCmpF (a, b)) fun t => bif decide (t < (0 : Int)) then some ([], (20 : Int)) else Option.bind (nNormF a) fun t => l12 b (0 : Int) (↑(List.length t) : Int) (0 : Int) t
def nSub_b12 (l12 : List Int → Int → Int → Int → List Int → Option (List Int × Int)) (t1 : List Int) (t7 : Int) (t17 : Int) (t18 : Int) (h0 : List Int) : Option (List Int × Int) :=
  bif decide (t18 < t17) then
  bif decide (t18 < (↑(List.length t1) : Int)) then
    bif inRange t18 (List.length t1) then
      bif inRange t18 (List.length h0) then
        Option.bind (wSubF (rdN h0 (Int.toNat t18), rdI t1 t18, t7)) fun t =>
          bif inRange t18 (List.length h0) then l12 t1 t.2 t17 (addI IntKind.i64 t18 (1 : Int)) (wrI h0 (Int.toNat t18) t.1) else none
      else none
    else none
  else
    bif inRange t18 (List.length h0) then
      Option.bind (wSubF (rdN h0 (Int.toNat t18), (0 : Int), t7)) fun t => bif inRange t18 (List.length h0) then l12 t1 t.2 t17 (addI IntKind.i64 t18 (1 : Int)) (wrI h0 (Int.toNat t18) t.1) else none
    else none
else Option.bind (nBoundF h0) fun t => some (t.1, t.2)
mutual
def nSub_L12 : Nat → (List Int) → Int → Int → Int → (List Int) → Option (List Int × Int)
  | 0, _, _, _, _, _ => none
  | k + 1, t1, t7, t17, t18, h0 => nSub_b12 (nSub_L12 k) t1 t7 t17 t18 h0
end
noncomputable def nSub_E : Env (dens [.sl (.int .u64),.int .i64]) := envOf S.tab [(91, mkF [.sl (.int .u64),.sl (.int .u64)] [.int .i64] nCmpF),(98, mkN [.sl (.int .u64)] 22 .u64 nNormF),(111, mkF [.int .u64,.int .u64,.int .u64] [.int .u64,.int .u64] wSubF),(102, mkF [.sl (.int .u64)] [.sl (.int .u64),.int .i64] nBoundF)] Go.Proofs.Tryz.f92 [4, 5] [.sl (.int .u64),.int .i64]
theorem nSub_s0 (r : Rec (dens [.sl (.int .u64),.int .i64])) (a : List Int) (b : List Int) : evT nSub_E nSub_h r 3000 false [.code (bodyOf Go.Proofs.Tryz.f92)] (T0 0 [.ints .u64 a, .ints .u64 b]) [] = nSub_b0 (fun t1 t7 t17 t18 h0 => r (todoOf 12 (bodyOf Go.Proofs.Tryz.f92)) [((1 : Nat), AV.ints IntKind.u64 t1), ((6 : Nat), AV.vec (nat_lit 0) (nat_lit 1)), ((7 : Nat), AV.int IntKind.u64 t7), ((17 : Nat), AV.int IntKind.i64 t17), ((18 : Nat), AV.int IntKind.i64 t18)] [Blk.I 22 IntKind.u64 h0]) a b := by kernel_rfl
theorem nSub_s12 (r : Rec (dens [.sl (.int .u64),.int .i64])) (t1 : List Int) (t7 : Int) (t17 : Int) (t18 : Int) (h0 : List Int) : evT nSub_E nSub_h r 3000 true (todoOf 12 (bodyOf Go.Proofs.Tryz.f92)) [((1 : Nat), AV.ints IntKind.u64 t1), ((6 : Nat), AV.vec (nat_lit 0) (nat_lit 1)), ((7 : Nat), AV.int IntKind.u64 t7), ((17 : Nat), AV.int IntKind.i64 t17), ((18 : Nat), AV.int IntKind.i64 t18)] [Blk.I 22 IntKind.u64 h0] = nSub_b12 (fun t1 t7 t17 t18 h0 => r (todoOf 12 (bodyOf Go.Proofs.Tryz.f92)) [((1 : Nat), AV.ints IntKind.u64 t1), ((6 : Nat), AV.vec (nat_lit 0) (nat_lit 1)), ((7 : Nat), AV.int IntKind.u64 t7), ((17 : Nat), AV.int IntKind.i64 t17), ((18 : Nat), AV.int IntKind.i64 t18)] [Blk.I 22 IntKind.u64 h0]) t1 t7 t17 t18 h0 := by kernel_rfl
theorem nSub_k : ∀ k, (∀ (t1 : List Int) (t7 : Int) (t17 : Int) (t18 : Int) (h0 : List Int), evK nSub_E nSub_h 3000 k (todoOf 12 (bodyOf Go.Proofs.Tryz.f92)) [((1 : Nat), AV.ints IntKind.u64 t1), ((6 : Nat), AV.vec (nat_lit 0) (nat_lit 1)), ((7 : Nat), AV.int IntKind.u64 t7), ((17 : Nat), AV.int IntKind.i64 t17), ((18 : Nat), AV.int IntKind.i64 t18)] [Blk.I 22 IntKind.u64 h0] = nSub_L12 k t1 t7 t17 t18 h0)
  | 0 => by
    refine ?_ <;> intros <;> rfl
  | k + 1 => by
    have ih := nSub_k k
    refine ?_ <;> intros
    · exact ((nSub_s12 _ _ _ _ _ _).trans (by simp only [ih] <;> rfl))
theorem nSub_ev (k : Nat) (a : List Int) (b : List Int) : evM nSub_E nSub_h 3000 k [.code (bodyOf Go.Proofs.Tryz.f92)] (T0 0 [.ints .u64 a, .ints .u64 b]) [] = nSub_b0 (nSub_L12 k) a b := by
  refine (nSub_s0 _ a b).trans ?_
  simp only [nSub_k k] <;> rfl
def nMul_h : Nat → Option Head := hintOf [(16, ⟨[(1, .same), (6, .same), (44, .same), (45, .same), (46, .same)], 1⟩), (24, ⟨[(1, .same), (6, .same), (7, .same), (8, .same), (9, .same), (44, .same), (45, .same), (46, .same), (51, .same), (52, .same), (53, .same)], 1⟩)]
def nMul_b0 (l16 : List Int → List Int → Int → Int → List Int → Option (List Int × Int)) (l24 : List Int → Int → Int → Int → List Int → Int → Int → List Int → Int → Int → List Int → Option (List Int × Int)) (a : List Int) (b : List Int) : Option (List Int × Int) :=
  Option.bind (nSizeF a) fun t =>
  bif bif decide ((0 : Int) ≤ t) then decide (t ≤ (↑(List.length a) : Int)) else false then
    Option.bind (nSizeF b) fun t_1 =>
      bif bif decide ((0 : Int) ≤ t_1) then decide (t_1 ≤ (↑(List.length b) : Int)) else false then
        bif decide ((↑(List.length (List.take (Int.toNat t) a)) : Int) = (0 : Int)) then some ([], (0 : Int))
        else
          bif decide ((↑(List.length (List.take (Int.toNat t_1) b)) : Int) = (0 : Int)) then some ([], (0 : Int))
          else
            Option.bind (nBitsF (List.take (Int.toNat t) a)) fun t_2 =>
              Option.bind (nBitsF (List.take (Int.toNat t_1) b)) fun t_3 =>
                bif decide (subI IntKind.i64 t_2 (1 : Int) > subI IntKind.i64 (262144 : Int) t_3) then some ([], (21 : Int))
                else
                  bif
                      bif decide ((0 : Int) ≤ addI IntKind.i64 (↑(List.length (List.take (Int.toNat t) a)) : Int) (↑(List.length (List.take (Int.toNat t_1) b)) : Int)) then
                        decide (addI IntKind.i64 (↑(List.length (List.take (Int.toNat t) a)) : Int) (↑(List.length (List.take (Int.toNat t_1) b)) : Int) * (8 : Int) ≤ (281474976710656 : Int))
                      else false then
                    l16 (List.take (Int.toNat t_1) b) (List.take (Int.toNat t) a) (↑(List.length (List.take (Int.toNat t) a)) : Int) (0 : Int)
                      (List.replicate (Int.toNat (addI IntKind.i64 (↑(List.length (List.take (Int.toNat t) a)) : Int) (↑(List.length (List.take (Int.toNat t_1) b)) : Int))) (0 : Int))
                  else none
      else none
  else none
def nMul_b16 (l16 : List Int → List Int → Int → Int → List Int → Option (List Int × Int)) (l24 : List Int → Int → Int → Int → List Int → Int → Int → List Int → Int → Int → List Int → Option (List Int × Int)) (t1 : List Int) (t44 : List Int) (t45 : Int) (t46 : Int) (h0 : List Int) : Option (List Int × Int) :=
  bif decide (t46 < t45) then bif inRange t46 (List.length t44) then l24 t1 t46 (rdI t44 t46) (0 : Int) t44 t45 t46 t1 (↑(List.length t1) : Int) (0 : Int) h0 else none
else Option.bind (nBoundF h0) fun t => some (t.1, t.2)
def nMul_b24 (l16 : List Int → List Int → Int → Int → List Int → Option (List Int × Int)) (l24 : List Int → Int → Int → Int → List Int → Int → Int → List Int → Int → Int → List Int → Option (List Int × Int)) (t1 : List Int) (t7 : Int) (t8 : Int) (t9 : Int) (t44 : List Int) (t45 : Int) (t46 : Int) (t51 : List Int) (t52 : Int) (t53 : Int) (h0 : List Int) : Option (List Int × Int) :=
  bif decide (t53 < t52) then
  bif inRange t53 (List.length t51) then
    Option.bind (wMulF (t8, rdI t51 t53)) fun t =>
      bif inRange (addI IntKind.i64 t7 t53) (List.length h0) then
        Option.bind (wAddF (t.2, rdN h0 (Int.toNat (addI IntKind.i64 t7 t53)), (0 : Int))) fun t_1 =>
          Option.bind (wAddF (t_1.1, t9, (0 : Int))) fun t_2 =>
            bif inRange (addI IntKind.i64 t7 t53) (List.length h0) then
              l24 t1 t7 t8 (addI IntKind.u64 (addI IntKind.u64 t.1 t_1.2) t_2.2) t44 t45 t46 t51 t52 (addI IntKind.i64 t53 (1 : Int)) (wrI h0 (Int.toNat (addI IntKind.i64 t7 t53)) t_2.1)
            else none
      else none
  else none
else
  bif inRange (addI IntKind.i64 t7 (↑(List.length t1) : Int)) (List.length h0) then
    l16 t1 t44 t45 (addI IntKind.i64 t46 (1 : Int)) (wrI h0 (Int.toNat (addI IntKind.i64 t7 (↑(List.length t1) : Int))) t9)
  else none
mutual
def nMul_L16 : Nat → (List Int) → (List Int) → Int → Int → (List Int) → Option (List Int × Int)
  | 0, _, _, _, _, _ => none
  | k + 1, t1, t44, t45, t46, h0 => nMul_b16 (nMul_L16 k) (nMul_L24 k) t1 t44 t45 t46 h0
def nMul_L24 : Nat → (List Int) → Int → Int → Int → (List Int) → Int → Int → (List Int) → Int → Int → (List Int) → Option (List Int × Int)
  | 0, _, _, _, _, _, _, _, _, _, _, _ => none
  | k + 1, t1, t7, t8, t9, t44, t45, t46, t51, t52, t53, h0 => nMul_b24 (nMul_L16 k) (nMul_L24 k) t1 t7 t8 t9 t44 t45 t46 t51 t52 t53 h0
end
noncomputable def nMul_E : Env (dens [.sl (.int .u64),.int .i64]) := envOf S.tab [(99, mkF [.sl (.int .u64)] [.int .i64] nSizeF),(100, mkF [.sl (.int .u64)] [.int .i64] nBitsF),(116, mkF [.int .u64,.int .u64] [.int .u64,.int .u64] wMulF),(117, mkF [.int .u64,.int .u64,.int .u64] [.int .u64,.int .u64] wAddF),(102, mkF [.sl (.int .u64)] [.sl (.int .u64),.int .i64] nBoundF)] Go.Proofs.Tryz.f108 [4, 5] [.sl (.int .u64),.int .i64]
theorem nMul_s0 (r : Rec (dens [.sl (.int .u64),.int .i64])) (a : List Int) (b : List Int) : evT nMul_E nMul_h r 3000 false [.code (bodyOf Go.Proofs.Tryz.f108)] (T0 0 [.ints .u64 a, .ints .u64 b]) [] = nMul_b0 (fun t1 t44 t45 t46 h0 => r (todoOf 16 (bodyOf Go.Proofs.Tryz.f108)) [((1 : Nat), AV.ints IntKind.u64 t1), ((6 : Nat), AV.vec (nat_lit 0) (nat_lit 1)), ((44 : Nat), AV.ints IntKind.u64 t44), ((45 : Nat), AV.int IntKind.i64 t45), ((46 : Nat), AV.int IntKind.i64 t46)] [Blk.I 22 IntKind.u64 h0]) (fun t1 t7 t8 t9 t44 t45 t46 t51 t52 t53 h0 => r (todoOf 24 (bodyOf Go.Proofs.Tryz.f108)) [((1 : Nat), AV.ints IntKind.u64 t1), ((6 : Nat), AV.vec (nat_lit 0) (nat_lit 1)), ((7 : Nat), AV.int IntKind.i64 t7), ((8 : Nat), AV.int IntKind.u64 t8), ((9 : Nat), AV.int IntKind.u64 t9),
  ((44 : Nat), AV.ints IntKind.u64 t44), ((45 : Nat), AV.int IntKind.i64 t45), ((46 : Nat), AV.int IntKind.i64 t46), ((51 : Nat), AV.ints IntKind.u64 t51), ((52 : Nat), AV.int IntKind.i64 t52),
  ((53 : Nat), AV.int IntKind.i64 t53)] [Blk.I 22 IntKind.u64 h0]) a b := by kernel_rfl
theorem nMul_s16 (r : Rec (dens [.sl (.int .u64),.int .i64])) (t1 : List Int) (t44 : List Int) (t45 : Int) (t46 : Int) (h0 : List Int) : evT nMul_E nMul_h r 3000 true (todoOf 16 (bodyOf Go.Proofs.Tryz.f108)) [((1 : Nat), AV.ints IntKind.u64 t1), ((6 : Nat), AV.vec (nat_lit 0) (nat_lit 1)), ((44 : Nat), AV.ints IntKind.u64 t44), ((45 : Nat), AV.int IntKind.i64 t45), ((46 : Nat), AV.int IntKind.i64 t46)] [Blk.I 22 IntKind.u64 h0] = nMul_b16 (fun t1 t44 t45 t46 h0 => r (todoOf 16 (bodyOf Go.Proofs.Tryz.f108)) [((1 : Nat), AV.ints IntKind.u64 t1), ((6 : Nat), AV.vec (nat_lit 0) (nat_lit 1)), ((44 : Nat), AV.ints IntKind.u64 t44), ((45 : Nat), AV.int IntKind.i64 t45), ((46 : Nat), AV.int IntKind.i64 t46)] [Blk.I 22 IntKind.u64 h0]) (fun t1 t7 t8 t9 t44 t45 t46 t51 t52 t53 h0 => r (todoOf 24 (bodyOf Go.Proofs.Tryz.f108)) [((1 : Nat), AV.ints IntKind.u64 t1), ((6 : Nat), AV.vec (nat_lit 0) (nat_lit 1)), ((7 : Nat), AV.int IntKind.i64 t7), ((8 : Nat), AV.int IntKind.u64 t8), ((9 : Nat), AV.int IntKind.u64 t9),
  ((44 : Nat), AV.ints IntKind.u64 t44), ((45 : Nat), AV.int IntKind.i64 t45), ((46 : Nat), AV.int IntKind.i64 t46), ((51 : Nat), AV.ints IntKind.u64 t51), ((52 : Nat), AV.int IntKind.i64 t52),
  ((53 : Nat), AV.int IntKind.i64 t53)] [Blk.I 22 IntKind.u64 h0]) t1 t44 t45 t46 h0 := by kernel_rfl
theorem nMul_s24 (r : Rec (dens [.sl (.int .u64),.int .i64])) (t1 : List Int) (t7 : Int) (t8 : Int) (t9 : Int) (t44 : List Int) (t45 : Int) (t46 : Int) (t51 : List Int) (t52 : Int) (t53 : Int) (h0 : List Int) : evT nMul_E nMul_h r 3000 true (todoOf 24 (bodyOf Go.Proofs.Tryz.f108)) [((1 : Nat), AV.ints IntKind.u64 t1), ((6 : Nat), AV.vec (nat_lit 0) (nat_lit 1)), ((7 : Nat), AV.int IntKind.i64 t7), ((8 : Nat), AV.int IntKind.u64 t8), ((9 : Nat), AV.int IntKind.u64 t9),
  ((44 : Nat), AV.ints IntKind.u64 t44), ((45 : Nat), AV.int IntKind.i64 t45), ((46 : Nat), AV.int IntKind.i64 t46), ((51 : Nat), AV.ints IntKind.u64 t51), ((52 : Nat), AV.int IntKind.i64 t52),
  ((53 : Nat), AV.int IntKind.i64 t53)] [Blk.I 22 IntKind.u64 h0] = nMul_b24 (fun t1 t44 t45 t46 h0 => r (todoOf 16 (bodyOf Go.Proofs.Tryz.f108)) [((1 : Nat), AV.ints IntKind.u64 t1), ((6 : Nat), AV.vec (nat_lit 0) (nat_lit 1)), ((44 : Nat), AV.ints IntKind.u64 t44), ((45 : Nat), AV.int IntKind.i64 t45), ((46 : Nat), AV.int IntKind.i64 t46)] [Blk.I 22 IntKind.u64 h0]) (fun t1 t7 t8 t9 t44 t45 t46 t51 t52 t53 h0 => r (todoOf 24 (bodyOf Go.Proofs.Tryz.f108)) [((1 : Nat), AV.ints IntKind.u64 t1), ((6 : Nat), AV.vec (nat_lit 0) (nat_lit 1)), ((7 : Nat), AV.int IntKind.i64 t7), ((8 : Nat), AV.int IntKind.u64 t8), ((9 : Nat), AV.int IntKind.u64 t9),
  ((44 : Nat), AV.ints IntKind.u64 t44), ((45 : Nat), AV.int IntKind.i64 t45), ((46 : Nat), AV.int IntKind.i64 t46), ((51 : Nat), AV.ints IntKind.u64 t51), ((52 : Nat), AV.int IntKind.i64 t52),
  ((53 : Nat), AV.int IntKind.i64 t53)] [Blk.I 22 IntKind.u64 h0]) t1 t7 t8 t9 t44 t45 t46 t51 t52 t53 h0 := by kernel_rfl
theorem nMul_k : ∀ k, (∀ (t1 : List Int) (t44 : List Int) (t45 : Int) (t46 : Int) (h0 : List Int), evK nMul_E nMul_h 3000 k (todoOf 16 (bodyOf Go.Proofs.Tryz.f108)) [((1 : Nat), AV.ints IntKind.u64 t1), ((6 : Nat), AV.vec (nat_lit 0) (nat_lit 1)), ((44 : Nat), AV.ints IntKind.u64 t44), ((45 : Nat), AV.int IntKind.i64 t45), ((46 : Nat), AV.int IntKind.i64 t46)] [Blk.I 22 IntKind.u64 h0] = nMul_L16 k t1 t44 t45 t46 h0) ∧ (∀ (t1 : List Int) (t7 : Int) (t8 : Int) (t9 : Int) (t44 : List Int) (t45 : Int) (t46 : Int) (t51 : List Int) (t52 : Int) (t53 : Int) (h0 : List Int), evK nMul_E nMul_h 3000 k (todoOf 24 (bodyOf Go.Proofs.Tryz.f108)) [((1 : Nat), AV.ints IntKind.u64 t1), ((6 : Nat), AV.vec (nat_lit 0) (nat_lit 1)), ((7 : Nat), AV.int IntKind.i64 t7), ((8 : Nat), AV.int IntKind.u64 t8), ((9 : Nat), AV.int IntKind.u64 t9),
  ((44 : Nat), AV.ints IntKind.u64 t44), ((45 : Nat), AV.int IntKind.i64 t45), ((46 : Nat), AV.int IntKind.i64 t46), ((51 : Nat), AV.ints IntKind.u64 t51), ((52 : Nat), AV.int IntKind.i64 t52),
  ((53 : Nat), AV.int IntKind.i64 t53)] [Blk.I 22 IntKind.u64 h0] = nMul_L24 k t1 t7 t8 t9 t44 t45 t46 t51 t52 t53 h0)
  | 0 => by
    refine ⟨?_, ?_⟩ <;> intros <;> rfl
  | k + 1 => by
    have ih := nMul_k k
    refine ⟨?_, ?_⟩ <;> intros
    · exact ((nMul_s16 _ _ _ _ _ _).trans (by simp only [ih] <;> rfl))
    · exact ((nMul_s24 _ _ _ _ _ _ _ _ _ _ _ _).trans (by simp only [ih] <;> rfl))
theorem nMul_ev (k : Nat) (a : List Int) (b : List Int) : evM nMul_E nMul_h 3000 k [.code (bodyOf Go.Proofs.Tryz.f108)] (T0 0 [.ints .u64 a, .ints .u64 b]) [] = nMul_b0 (nMul_L16 k) (nMul_L24 k) a b := by
  refine (nMul_s0 _ a b).trans ?_
  simp only [nMul_k k] <;> rfl
def nShl_h : Nat → Option Head := hintOf [(26, ⟨[(1, .same), (6, .same), (7, .same), (8, .same)], 1⟩)]
def nShl_b0 (l26 : Int → Int → Int → List Int → Option (List Int × Int)) (a : List Int) (n : Int) : Option (List Int × Int) :=
  Option.bind (nSizeF a) fun t =>
  bif bif decide ((0 : Int) ≤ t) then decide (t ≤ (↑(List.length a) : Int)) else false then
    bif decide (n < (0 : Int)) then some ([], (22 : Int))
    else
      bif decide ((↑(List.length (List.take (Int.toNat t) a)) : Int) = (0 : Int)) then some ([], (0 : Int))
      else
        Option.bind (nBitsF (List.take (Int.toNat t) a)) fun t_1 =>
          bif decide (n > subI IntKind.i64 (262144 : Int) t_1) then some ([], (21 : Int))
          else
            bif
                bif decide ((0 : Int) ≤ addI IntKind.i64 (addI IntKind.i64 (divI IntKind.i64 n (64 : Int)) (↑(List.length (List.take (Int.toNat t) a)) : Int)) (1 : Int)) then
                  decide (addI IntKind.i64 (addI IntKind.i64 (divI IntKind.i64 n (64 : Int)) (↑(List.length (List.take (Int.toNat t) a)) : Int)) (1 : Int) * (8 : Int) ≤ (281474976710656 : Int))
                else false then
              bif
                  bif decide ((0 : Int) ≤ divI IntKind.i64 n (64 : Int)) then
                    decide
                      (divI IntKind.i64 n (64 : Int) ≤
                        (↑(List.length
                              (List.replicate (Int.toNat (addI IntKind.i64 (addI IntKind.i64 (divI IntKind.i64 n (64 : Int)) (↑(List.length (List.take (Int.toNat t) a)) : Int)) (1 : Int)))
                                (0 : Int))) :
                          Int))
                  else false then
                bif
                    decide
                      (Int.toNat (divI IntKind.i64 n (64 : Int)) +
                          Int.toNat
                            ((↑(List.length
                                    (List.replicate (Int.toNat (addI IntKind.i64 (addI IntKind.i64 (divI IntKind.i64 n (64 : Int)) (↑(List.length (List.take (Int.toNat t) a)) : Int)) (1 : Int)))
                                      (0 : Int))) :
                                Int) -
                              divI IntKind.i64 n (64 : Int)) ≤
                        List.length
                          (List.replicate (Int.toNat (addI IntKind.i64 (addI IntKind.i64 (divI IntKind.i64 n (64 : Int)) (↑(List.length (List.take (Int.toNat t) a)) : Int)) (1 : Int)))
                            (0 : Int))) then
                  bif decide (remI n (64 : Int) > (0 : Int)) then
                    l26 n (remI n (64 : Int))
                      (subI IntKind.i64
                        (↑(List.length
                              (splice
                                (List.replicate (Int.toNat (addI IntKind.i64 (addI IntKind.i64 (divI IntKind.i64 n (64 : Int)) (↑(List.length (List.take (Int.toNat t) a)) : Int)) (1 : Int)))
                                  (0 : Int))
                                (Int.toNat (divI IntKind.i64 n (64 : Int)))
                                (List.take
                                  (Int.toNat
                                    ((↑(List.length
                                            (List.replicate
                                              (Int.toNat (addI IntKind.i64 (addI IntKind.i64 (divI IntKind.i64 n (64 : Int)) (↑(List.length (List.take (Int.toNat t) a)) : Int)) (1 : Int)))
                                              (0 : Int))) :
                                        Int) -
                                      divI IntKind.i64 n (64 : Int)))
                                  (List.take (Int.toNat t) a)))) :
                          Int)
                        (1 : Int))
                      (splice (List.replicate (Int.toNat (addI IntKind.i64 (addI IntKind.i64 (divI IntKind.i64 n (64 : Int)) (↑(List.length (List.take (Int.toNat t) a)) : Int)) (1 : Int))) (0 : Int))
                        (Int.toNat (divI IntKind.i64 n (64 : Int)))
                        (List.take
                          (Int.toNat
                            ((↑(List.length
                                    (List.replicate (Int.toNat (addI IntKind.i64 (addI IntKind.i64 (divI IntKind.i64 n (64 : Int)) (↑(List.length (List.take (Int.toNat t) a)) : Int)) (1 : Int)))
                                      (0 : Int))) :
                                Int) -
                              divI IntKind.i64 n (64 : Int)))
                          (List.take (Int.toNat t) a)))
                  else
                    Option.bind
                      (nBoundF
                        (splice
                          (List.replicate (Int.toNat (addI IntKind.i64 (addI IntKind.i64 (divI IntKind.i64 n (64 : Int)) (↑(List.length (List.take (Int.toNat t) a)) : Int)) (1 : Int))) (0 : Int))
                          (Int.toNat (divI IntKind.i64 n (64 : Int)))
                          (List.take
                            (Int.toNat
                              ((↑(List.length
                                      (List.replicate (Int.toNat (addI IntKind.i64 (addI IntKind.i64 (divI IntKind.i64 n (64 : Int)) (↑(List.length (List.take (Int.toNat t) a)) : Int)) (1 : Int)))
                                        (0 : Int))) :
                                  Int) -
                                divI IntKind.i64 n (64 : Int)))
                            (List.take (Int.toNat t) a))))
                      fun t => some (t.1, t.2)
                else none
              else none
            else none
  else none
def nShl_b26 (l26 : Int → Int → Int → List Int → Option (List Int × Int)) (t1 : Int) (t7 : Int) (t8 : Int) (h0 : List Int) : Option (List Int × Int) :=
  bif decide (t8 > divI IntKind.i64 t1 (64 : Int)) then
  bif inRange t8 (List.length h0) then
    bif inRange (subI IntKind.i64 t8 (1 : Int)) (List.length h0) then
      Option.bind (wShlF (rdN h0 (Int.toNat t8), rdN h0 (Int.toNat (subI IntKind.i64 t8 (1 : Int))), t7)) fun t =>
        bif inRange t8 (List.length h0) then l26 t1 t7 (subI IntKind.i64 t8 (1 : Int)) (wrI h0 (Int.toNat t8) t.1) else none
    else none
  else none
else
  bif inRange (divI IntKind.i64 t1 (64 : Int)) (List.length h0) then
    bif decide ((0 : Int) ≤ t7) then
      bif inRange (divI IntKind.i64 t1 (64 : Int)) (List.length h0) then
        Option.bind (nBoundF (wrI h0 (Int.toNat (divI IntKind.i64 t1 (64 : Int))) (shlI IntKind.u64 (rdN h0 (Int.toNat (divI IntKind.i64 t1 (64 : Int)))) t7))) fun t => some (t.1, t.2)
      else none
    else none
  else none
mutual
def nShl_L26 : Nat → Int → Int → Int → (List Int) → Option (List Int × Int)
  | 0, _, _, _, _ => none
  | k + 1, t1, t7, t8, h0 => nShl_b26 (nShl_L26 k) t1 t7 t8 h0
end
noncomputable def nShl_E : Env (dens [.sl (.int .u64),.int .i64]) := envOf S.tab [(99, mkF [.sl (.int .u64)] [.int .i64] nSizeF),(100, mkF [.sl (.int .u64)] [.int .i64] nBitsF),(101, mkF [.int .u64,.int .u64,.int .i64] [.int .u64,.int .u64] wShlF),(102, mkF [.sl (.int .u64)] [.sl (.int .u64),.int .i64] nBoundF)] Go.Proofs.Tryz.f77 [4, 5] [.sl (.int .u64),.int .i64]
theorem nShl_s0 (r : Rec (dens [.sl (.int .u64),.int .i64])) (a : List Int) (n : Int) : evT nShl_E nShl_h r 3000 false [.code (bodyOf Go.Proofs.Tryz.f77)] (T0 0 [.ints .u64 a, .int .i64 n]) [] = nShl_b0 (fun t1 t7 t8 h0 => r (todoOf 26 (bodyOf Go.Proofs.Tryz.f77)) [((1 : Nat), AV.int IntKind.i64 t1), ((6 : Nat), AV.vec (nat_lit 0) (nat_lit 1)), ((7 : Nat), AV.int IntKind.i64 t7), ((8 : Nat), AV.int IntKind.i64 t8)] [Blk.I 22 IntKind.u64 h0]) a n := by kernel_rfl
theorem nShl_s26 (r : Rec (dens [.sl (.int .u64),.int .i64])) (t1 : Int) (t7 : Int) (t8 : Int) (h0 : List Int) : evT nShl_E nShl_h r 3000 true (todoOf 26 (bodyOf Go.Proofs.Tryz.f77)) [((1 : Nat), AV.int IntKind.i64 t1), ((6 : Nat), AV.vec (nat_lit 0) (nat_lit 1)), ((7 : Nat), AV.int IntKind.i64 t7), ((8 : Nat), AV.int IntKind.i64 t8)] [Blk.I 22 IntKind.u64 h0] = nShl_b26 (fun t1 t7 t8 h0 => r (todoOf 26 (bodyOf Go.Proofs.Tryz.f77)) [((1 : Nat), AV.int IntKind.i64 t1), ((6 : Nat), AV.vec (nat_lit 0) (nat_lit 1)), ((7 : Nat), AV.int IntKind.i64 t7), ((8 : Nat), AV.int IntKind.i64 t8)] [Blk.I 22 IntKind.u64 h0]) t1 t7 t8 h0 := by kernel_rfl
theorem nShl_k : ∀ k, (∀ (t1 : Int) (t7 : Int) (t8 : Int) (h0 : List Int), evK nShl_E nShl_h 3000 k (todoOf 26 (bodyOf Go.Proofs.Tryz.f77)) [((1 : Nat), AV.int IntKind.i64 t1), ((6 : Nat), AV.vec (nat_lit 0) (nat_lit 1)), ((7 : Nat), AV.int IntKind.i64 t7), ((8 : Nat), AV.int IntKind.i64 t8)] [Blk.I 22 IntKind.u64 h0] = nShl_L26 k t1 t7 t8 h0)
  | 0 => by
    refine ?_ <;> intros <;> rfl
  | k + 1 => by
    have ih := nShl_k k
    refine ?_ <;> intros
    · exact ((nShl_s26 _ _ _ _ _).trans (by simp only [ih] <;> rfl))
theorem nShl_ev (k : Nat) (a : List Int) (n : Int) : evM nShl_E nShl_h 3000 k [.code (bodyOf Go.Proofs.Tryz.f77)] (T0 0 [.ints .u64 a, .int .i64 n]) [] = nShl_b0 (nShl_L26 k) a n := by
  refine (nShl_s0 _ a n).trans ?_
  simp only [nShl_k k] <;> rfl
def nBits_h : Nat → Option Head := hintOf []
def nBits_b0  (a : List Int) : Option (Int) :=
  Option.bind (nSizeF a) fun t =>
  bif decide (t = (0 : Int)) then some (0 : Int)
  else
    bif inRange (subI IntKind.i64 t (1 : Int)) (List.length a) then
      Option.bind (wLenF (rdI a (subI IntKind.i64 t (1 : Int)))) fun t_1 => some (addI IntKind.i64 (mulI IntKind.i64 (64 : Int) (subI IntKind.i64 t (1 : Int))) t_1)
    else none
noncomputable def nBits_E : Env (dens [.int .i64]) := envOf S.tab [(99, mkF [.sl (.int .u64)] [.int .i64] nSizeF),(113, mkF [.int .u64] [.int .i64] wLenF)] Go.Proofs.Tryz.f100 [2] [.int .i64]
theorem nBits_s0 (r : Rec (dens [.int .i64])) (a : List Int) : evT nBits_E nBits_h r 3000 false [.code (bodyOf Go.Proofs.Tryz.f100)] (T0 0 [.ints .u64 a]) [] = nBits_b0  a := by kernel_rfl
theorem nBits_ev (k : Nat) (a : List Int) : evM nBits_E nBits_h 3000 k [.code (bodyOf Go.Proofs.Tryz.f100)] (T0 0 [.ints .u64 a]) [] = nBits_b0  a := by
  exact nBits_s0 _ a
end
end Go.RX.S
