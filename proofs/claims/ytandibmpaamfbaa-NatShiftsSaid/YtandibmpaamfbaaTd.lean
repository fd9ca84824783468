/- What functions compute, printed. -/
import Derived.Test.YtandibmpaamfbaaTc
set_option linter.unusedVariables false
set_option linter.unusedSimpArgs false
namespace Go.RX.S
open Go Go.RX
noncomputable section
/-! ### plumb/plumbref02.cut -/
def dcut_h : Nat → Option Head := hintOf [(4, ⟨[(0, .same), (3, .same)], 0⟩)]
def dcut_b0 (l4 : List Int → Int → Option (List Int)) (a : List Int) : Option (List Int) :=
  l4 a (↑(List.length a) : Int)
def dcut_b4 (l4 : List Int → Int → Option (List Int)) (t0 : List Int) (t3 : Int) : Option (List Int) :=
  bif decide (t3 > (0 : Int)) then
  bif inRange (subI IntKind.i64 t3 (1 : Int)) (List.length t0) then
    bif decide (rdI t0 (subI IntKind.i64 t3 (1 : Int)) = (0 : Int)) then l4 t0 (subI IntKind.i64 t3 (1 : Int))
    else bif bif decide ((0 : Int) ≤ t3) then decide (t3 ≤ (↑(List.length t0) : Int)) else false then some (List.take (Int.toNat t3) t0) else none
  else none
else bif bif decide ((0 : Int) ≤ t3) then decide (t3 ≤ (↑(List.length t0) : Int)) else false then some (List.take (Int.toNat t3) t0) else none
mutual
def dcut_L4 : Nat → (List Int) → Int → Option (List Int)
  | 0, _, _ => none
  | k + 1, t0, t3 => dcut_b4 (dcut_L4 k) t0 t3
end
noncomputable def dcut_E : Env (dens [.sl (.int .i64)]) := envOf S.tab [] Go.Proofs.Try.f148 [2] [.sl (.int .i64)]
theorem dcut_s0 (r : Rec (dens [.sl (.int .i64)])) (a : List Int) : evT dcut_E dcut_h r 3000 false [.code (bodyOf Go.Proofs.Try.f148)] (T0 0 [.ints .i64 a]) [] = dcut_b0 (fun t0 t3 => r (todoOf 4 (bodyOf Go.Proofs.Try.f148)) [((0 : Nat), AV.ints IntKind.i64 t0), ((3 : Nat), AV.int IntKind.i64 t3)] []) a := by kernel_rfl
theorem dcut_s4 (r : Rec (dens [.sl (.int .i64)])) (t0 : List Int) (t3 : Int) : evT dcut_E dcut_h r 3000 true (todoOf 4 (bodyOf Go.Proofs.Try.f148)) [((0 : Nat), AV.ints IntKind.i64 t0), ((3 : Nat), AV.int IntKind.i64 t3)] [] = dcut_b4 (fun t0 t3 => r (todoOf 4 (bodyOf Go.Proofs.Try.f148)) [((0 : Nat), AV.ints IntKind.i64 t0), ((3 : Nat), AV.int IntKind.i64 t3)] []) t0 t3 := by kernel_rfl
theorem dcut_k : ∀ k, (∀ (t0 : List Int) (t3 : Int), evK dcut_E dcut_h 3000 k (todoOf 4 (bodyOf Go.Proofs.Try.f148)) [((0 : Nat), AV.ints IntKind.i64 t0), ((3 : Nat), AV.int IntKind.i64 t3)] [] = dcut_L4 k t0 t3)
  | 0 => by
    refine ?_ <;> intros <;> rfl
  | k + 1 => by
    have ih := dcut_k k
    refine ?_ <;> intros
    · exact ((dcut_s4 _ _ _).trans (by simp only [ih] <;> rfl))
theorem dcut_ev (k : Nat) (a : List Int) : evM dcut_E dcut_h 3000 k [.code (bodyOf Go.Proofs.Try.f148)] (T0 0 [.ints .i64 a]) [] = dcut_b0 (dcut_L4 k) a := by
  refine (dcut_s0 _ a).trans ?_
  simp only [dcut_k k] <;> rfl

/-! ### plumb/plumbref02.digits -/
def digits_h : Nat → Option Head := hintOf [(6, ⟨[(0, .same), (3, .vec 3), (4, .same)], 1⟩)]
def digits_b0 (l6 : List Int → Int → List Int → Option (List Int)) (a : List Int) : Option (List Int) :=
  l6 a (0 : Int) []
def digits_b6 (l6 : List Int → Int → List Int → Option (List Int)) (t0 : List Int) (t4 : Int) (h0 : List Int) : Option (List Int) :=
  bif decide (t4 < (↑(List.length t0) : Int)) then
  bif inRange t4 (List.length t0) then
    bif decide ((↑(List.length (h0 ++ [cvI IntKind.i64 (remI (rdI t0 t4) (65536 : Int))])) : Int) * (8 : Int) ≤ (140737488355328 : Int)) then
      bif
          decide
            ((↑(List.length (h0 ++ [cvI IntKind.i64 (remI (rdI t0 t4) (65536 : Int))] ++ [cvI IntKind.i64 (remI (divI IntKind.u64 (rdI t0 t4) (65536 : Int)) (65536 : Int))])) : Int) * (8 : Int) ≤
              (140737488355328 : Int)) then
        bif
            decide
              ((↑(List.length
                        (h0 ++ [cvI IntKind.i64 (remI (rdI t0 t4) (65536 : Int))] ++ [cvI IntKind.i64 (remI (divI IntKind.u64 (rdI t0 t4) (65536 : Int)) (65536 : Int))] ++
                          [cvI IntKind.i64 (remI (divI IntKind.u64 (divI IntKind.u64 (rdI t0 t4) (65536 : Int)) (65536 : Int)) (65536 : Int))])) :
                    Int) *
                  (8 : Int) ≤
                (140737488355328 : Int)) then
          bif
              decide
                ((↑(List.length
                          (h0 ++ [cvI IntKind.i64 (remI (rdI t0 t4) (65536 : Int))] ++ [cvI IntKind.i64 (remI (divI IntKind.u64 (rdI t0 t4) (65536 : Int)) (65536 : Int))] ++
                              [cvI IntKind.i64 (remI (divI IntKind.u64 (divI IntKind.u64 (rdI t0 t4) (65536 : Int)) (65536 : Int)) (65536 : Int))] ++
                            [cvI IntKind.i64 (remI (divI IntKind.u64 (divI IntKind.u64 (divI IntKind.u64 (rdI t0 t4) (65536 : Int)) (65536 : Int)) (65536 : Int)) (65536 : Int))])) :
                      Int) *
                    (8 : Int) ≤
                  (140737488355328 : Int)) then
            l6 t0 (addI IntKind.i64 t4 (1 : Int))
              (h0 ++ [cvI IntKind.i64 (remI (rdI t0 t4) (65536 : Int))] ++ [cvI IntKind.i64 (remI (divI IntKind.u64 (rdI t0 t4) (65536 : Int)) (65536 : Int))] ++
                  [cvI IntKind.i64 (remI (divI IntKind.u64 (divI IntKind.u64 (rdI t0 t4) (65536 : Int)) (65536 : Int)) (65536 : Int))] ++
                [cvI IntKind.i64 (remI (divI IntKind.u64 (divI IntKind.u64 (divI IntKind.u64 (rdI t0 t4) (65536 : Int)) (65536 : Int)) (65536 : Int)) (65536 : Int))])
          else none
        else none
      else none
    else none
  else none
else Option.bind (dcutF h0) fun t => some t
mutual
def digits_L6 : Nat → (List Int) → Int → (List Int) → Option (List Int)
  | 0, _, _, _ => none
  | k + 1, t0, t4, h0 => digits_b6 (digits_L6 k) t0 t4 h0
end
noncomputable def digits_E : Env (dens [.sl (.int .i64)]) := envOf S.tab [(148, mkF [.sl (.int .i64)] [.sl (.int .i64)] dcutF)] Go.Proofs.Try.f120 [2] [.sl (.int .i64)]
theorem digits_s0 (r : Rec (dens [.sl (.int .i64)])) (a : List Int) : evT digits_E digits_h r 3000 false [.code (bodyOf Go.Proofs.Try.f120)] (T0 0 [.ints .u64 a]) [] = digits_b0 (fun t0 t4 h0 => r (todoOf 6 (bodyOf Go.Proofs.Try.f120)) [((0 : Nat), AV.ints IntKind.u64 t0), ((3 : Nat), AV.vec (nat_lit 0) (nat_lit 1)), ((4 : Nat), AV.int IntKind.i64 t4)] [Blk.I (nat_lit 3) IntKind.i64 h0]) a := by kernel_rfl
theorem digits_s6 (r : Rec (dens [.sl (.int .i64)])) (t0 : List Int) (t4 : Int) (h0 : List Int) : evT digits_E digits_h r 3000 true (todoOf 6 (bodyOf Go.Proofs.Try.f120)) [((0 : Nat), AV.ints IntKind.u64 t0), ((3 : Nat), AV.vec (nat_lit 0) (nat_lit 1)), ((4 : Nat), AV.int IntKind.i64 t4)] [Blk.I (nat_lit 3) IntKind.i64 h0] = digits_b6 (fun t0 t4 h0 => r (todoOf 6 (bodyOf Go.Proofs.Try.f120)) [((0 : Nat), AV.ints IntKind.u64 t0), ((3 : Nat), AV.vec (nat_lit 0) (nat_lit 1)), ((4 : Nat), AV.int IntKind.i64 t4)] [Blk.I (nat_lit 3) IntKind.i64 h0]) t0 t4 h0 := by kernel_rfl
theorem digits_k : ∀ k, (∀ (t0 : List Int) (t4 : Int) (h0 : List Int), evK digits_E digits_h 3000 k (todoOf 6 (bodyOf Go.Proofs.Try.f120)) [((0 : Nat), AV.ints IntKind.u64 t0), ((3 : Nat), AV.vec (nat_lit 0) (nat_lit 1)), ((4 : Nat), AV.int IntKind.i64 t4)] [Blk.I (nat_lit 3) IntKind.i64 h0] = digits_L6 k t0 t4 h0)
  | 0 => by
    refine ?_ <;> intros <;> rfl
  | k + 1 => by
    have ih := digits_k k
    refine ?_ <;> intros
    · exact ((digits_s6 _ _ _ _).trans (by simp only [ih] <;> rfl))
theorem digits_ev (k : Nat) (a : List Int) : evM digits_E digits_h 3000 k [.code (bodyOf Go.Proofs.Try.f120)] (T0 0 [.ints .u64 a]) [] = digits_b0 (digits_L6 k) a := by
  refine (digits_s0 _ a).trans ?_
  simp only [digits_k k] <;> rfl

/-! ### plumb/plumbref02.words -/
def dwords_h : Nat → Option Head := hintOf [(8, ⟨[(0, .same), (3, .vec 36), (4, .same)], 1⟩), (16, ⟨[(0, .same), (3, .same), (4, .same), (5, .same), (6, .same)], 1⟩)]
def dwords_b0 (l8 : List Int → Int → List Int → Option (List Int)) (l16 : List Int → Int → Int → Int → List Int → Option (List Int)) (a : List Int) : Option (List Int) :=
  Option.bind (dcutF a) fun t => l8 t (0 : Int) []
def dwords_b8 (l8 : List Int → Int → List Int → Option (List Int)) (l16 : List Int → Int → Int → Int → List Int → Option (List Int)) (t0 : List Int) (t4 : Int) (h0 : List Int) : Option (List Int) :=
  bif decide (t4 < (↑(List.length t0) : Int)) then l16 t0 t4 (0 : Int) (3 : Int) h0 else some h0
def dwords_b16 (l8 : List Int → Int → List Int → Option (List Int)) (l16 : List Int → Int → Int → Int → List Int → Option (List Int)) (t0 : List Int) (t4 : Int) (t5 : Int) (t6 : Int) (h0 : List Int) : Option (List Int) :=
  bif decide (t6 ≥ (0 : Int)) then
  bif decide (addI IntKind.i64 t4 t6 < (↑(List.length t0) : Int)) then
    bif inRange (addI IntKind.i64 t4 t6) (List.length t0) then
      l16 t0 t4 (addI IntKind.u64 (mulI IntKind.u64 t5 (65536 : Int)) (cvI IntKind.u64 (rdI t0 (addI IntKind.i64 t4 t6)))) (subI IntKind.i64 t6 (1 : Int)) h0
    else none
  else l16 t0 t4 (mulI IntKind.u64 t5 (65536 : Int)) (subI IntKind.i64 t6 (1 : Int)) h0
else bif decide ((↑(List.length (h0 ++ [t5])) : Int) * (8 : Int) ≤ (140737488355328 : Int)) then l8 t0 (addI IntKind.i64 t4 (4 : Int)) (h0 ++ [t5]) else none
mutual
def dwords_L8 : Nat → (List Int) → Int → (List Int) → Option (List Int)
  | 0, _, _, _ => none
  | k + 1, t0, t4, h0 => dwords_b8 (dwords_L8 k) (dwords_L16 k) t0 t4 h0
def dwords_L16 : Nat → (List Int) → Int → Int → Int → (List Int) → Option (List Int)
  | 0, _, _, _, _, _ => none
  | k + 1, t0, t4, t5, t6, h0 => dwords_b16 (dwords_L8 k) (dwords_L16 k) t0 t4 t5 t6 h0
end
noncomputable def dwords_E : Env (dens [.sl (.int .u64)]) := envOf S.tab [(148, mkF [.sl (.int .i64)] [.sl (.int .i64)] dcutF)] Go.Proofs.Try.f124 [2] [.sl (.int .u64)]
theorem dwords_s0 (r : Rec (dens [.sl (.int .u64)])) (a : List Int) : evT dwords_E dwords_h r 3000 false [.code (bodyOf Go.Proofs.Try.f124)] (T0 0 [.ints .i64 a]) [] = dwords_b0 (fun t0 t4 h0 => r (todoOf 8 (bodyOf Go.Proofs.Try.f124)) [((0 : Nat), AV.ints IntKind.i64 t0), ((3 : Nat), AV.vec (nat_lit 0) (nat_lit 1)), ((4 : Nat), AV.int IntKind.i64 t4)] [Blk.I (nat_lit 36) IntKind.u64 h0]) (fun t0 t4 t5 t6 h0 => r (todoOf 16 (bodyOf Go.Proofs.Try.f124)) [((0 : Nat), AV.ints IntKind.i64 t0), ((3 : Nat), AV.vec (nat_lit 0) (nat_lit 1)), ((4 : Nat), AV.int IntKind.i64 t4), ((5 : Nat), AV.int IntKind.u64 t5), ((6 : Nat), AV.int IntKind.i64 t6)] [Blk.I (nat_lit 36) IntKind.u64 h0]) a := by kernel_rfl
theorem dwords_s8 (r : Rec (dens [.sl (.int .u64)])) (t0 : List Int) (t4 : Int) (h0 : List Int) : evT dwords_E dwords_h r 3000 true (todoOf 8 (bodyOf Go.Proofs.Try.f124)) [((0 : Nat), AV.ints IntKind.i64 t0), ((3 : Nat), AV.vec (nat_lit 0) (nat_lit 1)), ((4 : Nat), AV.int IntKind.i64 t4)] [Blk.I (nat_lit 36) IntKind.u64 h0] = dwords_b8 (fun t0 t4 h0 => r (todoOf 8 (bodyOf Go.Proofs.Try.f124)) [((0 : Nat), AV.ints IntKind.i64 t0), ((3 : Nat), AV.vec (nat_lit 0) (nat_lit 1)), ((4 : Nat), AV.int IntKind.i64 t4)] [Blk.I (nat_lit 36) IntKind.u64 h0]) (fun t0 t4 t5 t6 h0 => r (todoOf 16 (bodyOf Go.Proofs.Try.f124)) [((0 : Nat), AV.ints IntKind.i64 t0), ((3 : Nat), AV.vec (nat_lit 0) (nat_lit 1)), ((4 : Nat), AV.int IntKind.i64 t4), ((5 : Nat), AV.int IntKind.u64 t5), ((6 : Nat), AV.int IntKind.i64 t6)] [Blk.I (nat_lit 36) IntKind.u64 h0]) t0 t4 h0 := by kernel_rfl
theorem dwords_s16 (r : Rec (dens [.sl (.int .u64)])) (t0 : List Int) (t4 : Int) (t5 : Int) (t6 : Int) (h0 : List Int) : evT dwords_E dwords_h r 3000 true (todoOf 16 (bodyOf Go.Proofs.Try.f124)) [((0 : Nat), AV.ints IntKind.i64 t0), ((3 : Nat), AV.vec (nat_lit 0) (nat_lit 1)), ((4 : Nat), AV.int IntKind.i64 t4), ((5 : Nat), AV.int IntKind.u64 t5), ((6 : Nat), AV.int IntKind.i64 t6)] [Blk.I (nat_lit 36) IntKind.u64 h0] = dwords_b16 (fun t0 t4 h0 => r (todoOf 8 (bodyOf Go.Proofs.Try.f124)) [((0 : Nat), AV.ints IntKind.i64 t0), ((3 : Nat), AV.vec (nat_lit 0) (nat_lit 1)), ((4 : Nat), AV.int IntKind.i64 t4)] [Blk.I (nat_lit 36) IntKind.u64 h0]) (fun t0 t4 t5 t6 h0 => r (todoOf 16 (bodyOf Go.Proofs.Try.f124)) [((0 : Nat), AV.ints IntKind.i64 t0), ((3 : Nat), AV.vec (nat_lit 0) (nat_lit 1)), ((4 : Nat), AV.int IntKind.i64 t4), ((5 : Nat), AV.int IntKind.u64 t5), ((6 : Nat), AV.int IntKind.i64 t6)] [Blk.I (nat_lit 36) IntKind.u64 h0]) t0 t4 t5 t6 h0 := by kernel_rfl
theorem dwords_k : ∀ k, (∀ (t0 : List Int) (t4 : Int) (h0 : List Int), evK dwords_E dwords_h 3000 k (todoOf 8 (bodyOf Go.Proofs.Try.f124)) [((0 : Nat), AV.ints IntKind.i64 t0), ((3 : Nat), AV.vec (nat_lit 0) (nat_lit 1)), ((4 : Nat), AV.int IntKind.i64 t4)] [Blk.I (nat_lit 36) IntKind.u64 h0] = dwords_L8 k t0 t4 h0) ∧ (∀ (t0 : List Int) (t4 : Int) (t5 : Int) (t6 : Int) (h0 : List Int), evK dwords_E dwords_h 3000 k (todoOf 16 (bodyOf Go.Proofs.Try.f124)) [((0 : Nat), AV.ints IntKind.i64 t0), ((3 : Nat), AV.vec (nat_lit 0) (nat_lit 1)), ((4 : Nat), AV.int IntKind.i64 t4), ((5 : Nat), AV.int IntKind.u64 t5), ((6 : Nat), AV.int IntKind.i64 t6)] [Blk.I (nat_lit 36) IntKind.u64 h0] = dwords_L16 k t0 t4 t5 t6 h0)
  | 0 => by
    refine ⟨?_, ?_⟩ <;> intros <;> rfl
  | k + 1 => by
    have ih := dwords_k k
    refine ⟨?_, ?_⟩ <;> intros
    · exact ((dwords_s8 _ _ _ _).trans (by simp only [ih] <;> rfl))
    · exact ((dwords_s16 _ _ _ _ _ _).trans (by simp only [ih] <;> rfl))
theorem dwords_ev (k : Nat) (a : List Int) : evM dwords_E dwords_h 3000 k [.code (bodyOf Go.Proofs.Try.f124)] (T0 0 [.ints .i64 a]) [] = dwords_b0 (dwords_L8 k) (dwords_L16 k) a := by
  refine (dwords_s0 _ a).trans ?_
  simp only [dwords_k k] <;> rfl

/-! ### plumb/plumbref02.carried -/
def carried_h : Nat → Option Head := hintOf [(8, ⟨[(0, .same), (3, .vec 3), (4, .same), (5, .same)], 1⟩)]
def carried_b0 (l8 : List Int → Int → Int → List Int → Option (List Int)) (a : List Int) : Option (List Int) :=
  l8 a (0 : Int) (0 : Int) []
def carried_b8 (l8 : List Int → Int → Int → List Int → Option (List Int)) (t0 : List Int) (t4 : Int) (t5 : Int) (h0 : List Int) : Option (List Int) :=
  bif decide (t5 < (↑(List.length t0) : Int)) then
  bif decide (t5 < (↑(List.length t0) : Int)) then
    bif inRange t5 (List.length t0) then
      bif decide ((↑(List.length (h0 ++ [remI (addI IntKind.i64 t4 (rdI t0 t5)) (65536 : Int)])) : Int) * (8 : Int) ≤ (140737488355328 : Int)) then
        l8 t0 (divI IntKind.i64 (addI IntKind.i64 t4 (rdI t0 t5)) (65536 : Int)) (addI IntKind.i64 t5 (1 : Int)) (h0 ++ [remI (addI IntKind.i64 t4 (rdI t0 t5)) (65536 : Int)])
      else none
    else none
  else
    bif decide ((↑(List.length (h0 ++ [remI t4 (65536 : Int)])) : Int) * (8 : Int) ≤ (140737488355328 : Int)) then
      l8 t0 (divI IntKind.i64 t4 (65536 : Int)) (addI IntKind.i64 t5 (1 : Int)) (h0 ++ [remI t4 (65536 : Int)])
    else none
else
  bif decide (t4 > (0 : Int)) then
    bif decide (t5 < (↑(List.length t0) : Int)) then
      bif inRange t5 (List.length t0) then
        bif decide ((↑(List.length (h0 ++ [remI (addI IntKind.i64 t4 (rdI t0 t5)) (65536 : Int)])) : Int) * (8 : Int) ≤ (140737488355328 : Int)) then
          l8 t0 (divI IntKind.i64 (addI IntKind.i64 t4 (rdI t0 t5)) (65536 : Int)) (addI IntKind.i64 t5 (1 : Int)) (h0 ++ [remI (addI IntKind.i64 t4 (rdI t0 t5)) (65536 : Int)])
        else none
      else none
    else
      bif decide ((↑(List.length (h0 ++ [remI t4 (65536 : Int)])) : Int) * (8 : Int) ≤ (140737488355328 : Int)) then
        l8 t0 (divI IntKind.i64 t4 (65536 : Int)) (addI IntKind.i64 t5 (1 : Int)) (h0 ++ [remI t4 (65536 : Int)])
      else none
  else Option.bind (dcutF h0) fun t => some t
mutual
def carried_L8 : Nat → (List Int) → Int → Int → (List Int) → Option (List Int)
  | 0, _, _, _, _ => none
  | k + 1, t0, t4, t5, h0 => carried_b8 (carried_L8 k) t0 t4 t5 h0
end
noncomputable def carried_E : Env (dens [.sl (.int .i64)]) := envOf S.tab [(148, mkF [.sl (.int .i64)] [.sl (.int .i64)] dcutF)] Go.Proofs.Try.f122 [2] [.sl (.int .i64)]
theorem carried_s0 (r : Rec (dens [.sl (.int .i64)])) (a : List Int) : evT carried_E carried_h r 3000 false [.code (bodyOf Go.Proofs.Try.f122)] (T0 0 [.ints .i64 a]) [] = carried_b0 (fun t0 t4 t5 h0 => r (todoOf 8 (bodyOf Go.Proofs.Try.f122)) [((0 : Nat), AV.ints IntKind.i64 t0), ((3 : Nat), AV.vec (nat_lit 0) (nat_lit 1)), ((4 : Nat), AV.int IntKind.i64 t4), ((5 : Nat), AV.int IntKind.i64 t5)] [Blk.I (nat_lit 3) IntKind.i64 h0]) a := by kernel_rfl
theorem carried_s8 (r : Rec (dens [.sl (.int .i64)])) (t0 : List Int) (t4 : Int) (t5 : Int) (h0 : List Int) : evT carried_E carried_h r 3000 true (todoOf 8 (bodyOf Go.Proofs.Try.f122)) [((0 : Nat), AV.ints IntKind.i64 t0), ((3 : Nat), AV.vec (nat_lit 0) (nat_lit 1)), ((4 : Nat), AV.int IntKind.i64 t4), ((5 : Nat), AV.int IntKind.i64 t5)] [Blk.I (nat_lit 3) IntKind.i64 h0] = carried_b8 (fun t0 t4 t5 h0 => r (todoOf 8 (bodyOf Go.Proofs.Try.f122)) [((0 : Nat), AV.ints IntKind.i64 t0), ((3 : Nat), AV.vec (nat_lit 0) (nat_lit 1)), ((4 : Nat), AV.int IntKind.i64 t4), ((5 : Nat), AV.int IntKind.i64 t5)] [Blk.I (nat_lit 3) IntKind.i64 h0]) t0 t4 t5 h0 := by kernel_rfl
theorem carried_k : ∀ k, (∀ (t0 : List Int) (t4 : Int) (t5 : Int) (h0 : List Int), evK carried_E carried_h 3000 k (todoOf 8 (bodyOf Go.Proofs.Try.f122)) [((0 : Nat), AV.ints IntKind.i64 t0), ((3 : Nat), AV.vec (nat_lit 0) (nat_lit 1)), ((4 : Nat), AV.int IntKind.i64 t4), ((5 : Nat), AV.int IntKind.i64 t5)] [Blk.I (nat_lit 3) IntKind.i64 h0] = carried_L8 k t0 t4 t5 h0)
  | 0 => by
    refine ?_ <;> intros <;> rfl
  | k + 1 => by
    have ih := carried_k k
    refine ?_ <;> intros
    · exact ((carried_s8 _ _ _ _ _).trans (by simp only [ih] <;> rfl))
theorem carried_ev (k : Nat) (a : List Int) : evM carried_E carried_h 3000 k [.code (bodyOf Go.Proofs.Try.f122)] (T0 0 [.ints .i64 a]) [] = carried_b0 (carried_L8 k) a := by
  refine (carried_s0 _ a).trans ?_
  simp only [carried_k k] <;> rfl

/-! ### plumb/plumbref02.told -/
def rtold_h : Nat → Option Head := hintOf []
def rtold_b0  (a : List Int) : Option (List Int × Int) :=
  Option.bind (dwordsF a) fun t => bif decide ((↑(List.length t) : Int) > (4096 : Int)) then some ([], (21 : Int)) else some (t, (0 : Int))
noncomputable def rtold_E : Env (dens [.sl (.int .u64), .int .i64]) := envOf S.tab [(124, mkF [.sl (.int .i64)] [.sl (.int .u64)] dwordsF)] Go.Proofs.Try.f121 [2, 3] [.sl (.int .u64), .int .i64]
theorem rtold_s0 (r : Rec (dens [.sl (.int .u64), .int .i64])) (a : List Int) : evT rtold_E rtold_h r 3000 false [.code (bodyOf Go.Proofs.Try.f121)] (T0 0 [.ints .i64 a]) [] = rtold_b0  a := by kernel_rfl
theorem rtold_ev (k : Nat) (a : List Int) : evM rtold_E rtold_h 3000 k [.code (bodyOf Go.Proofs.Try.f121)] (T0 0 [.ints .i64 a]) [] = rtold_b0  a := by
  exact rtold_s0 _ a

/-! ### plumb/plumbref02.Norm -/
def rNorm_h : Nat → Option Head := hintOf []
def rNorm_b0  (a : List Int) : Option (List Int) :=
  Option.bind (digitsF a) fun t => Option.bind (dwordsF t) fun t => some t
noncomputable def rNorm_E : Env (dens [.sl (.int .u64)]) := envOf S.tab [(124, mkF [.sl (.int .i64)] [.sl (.int .u64)] dwordsF), (120, mkF [.sl (.int .u64)] [.sl (.int .i64)] digitsF)] Go.Proofs.Try.f58 [2] [.sl (.int .u64)]
theorem rNorm_s0 (r : Rec (dens [.sl (.int .u64)])) (a : List Int) : evT rNorm_E rNorm_h r 3000 false [.code (bodyOf Go.Proofs.Try.f58)] (T0 0 [.ints .u64 a]) [] = rNorm_b0  a := by kernel_rfl
theorem rNorm_ev (k : Nat) (a : List Int) : evM rNorm_E rNorm_h 3000 k [.code (bodyOf Go.Proofs.Try.f58)] (T0 0 [.ints .u64 a]) [] = rNorm_b0  a := by
  exact rNorm_s0 _ a

/-! ### plumb/plumbref02.From -/
def rFrom_h : Nat → Option Head := hintOf []
def rFrom_b0  (a : Int) : Option (List Int) :=
  Option.bind (rNormF [a]) fun t => some t
noncomputable def rFrom_E : Env (dens [.sl (.int .u64)]) := envOf S.tab [(58, mkF [.sl (.int .u64)] [.sl (.int .u64)] rNormF)] Go.Proofs.Try.f63 [2] [.sl (.int .u64)]
theorem rFrom_s0 (r : Rec (dens [.sl (.int .u64)])) (a : Int) : evT rFrom_E rFrom_h r 3000 false [.code (bodyOf Go.Proofs.Try.f63)] (T0 0 [.int .u64 a]) [] = rFrom_b0  a := by kernel_rfl
theorem rFrom_ev (k : Nat) (a : Int) : evM rFrom_E rFrom_h 3000 k [.code (bodyOf Go.Proofs.Try.f63)] (T0 0 [.int .u64 a]) [] = rFrom_b0  a := by
  exact rFrom_s0 _ a

/-! ### plumb/plumbref02.Word -/
def rWord_h : Nat → Option Head := hintOf []
def rWord_b0  (a : List Int) : Option (Int × Bool) :=
  Option.bind (rNormF a) fun t =>
  bif decide ((↑(List.length t) : Int) = (0 : Int)) then some ((0 : Int), true)
  else bif decide ((↑(List.length t) : Int) > (1 : Int)) then some ((0 : Int), false) else bif inRange (0 : Int) (List.length t) then some (rdI t (0 : Int), true) else none
noncomputable def rWord_E : Env (dens [.int .u64, .bool]) := envOf S.tab [(58, mkF [.sl (.int .u64)] [.sl (.int .u64)] rNormF)] Go.Proofs.Try.f61 [2, 3] [.int .u64, .bool]
theorem rWord_s0 (r : Rec (dens [.int .u64, .bool])) (a : List Int) : evT rWord_E rWord_h r 3000 false [.code (bodyOf Go.Proofs.Try.f61)] (T0 0 [.ints .u64 a]) [] = rWord_b0  a := by kernel_rfl
theorem rWord_ev (k : Nat) (a : List Int) : evM rWord_E rWord_h 3000 k [.code (bodyOf Go.Proofs.Try.f61)] (T0 0 [.ints .u64 a]) [] = rWord_b0  a := by
  exact rWord_s0 _ a

/-! ### plumb/plumbref02.compare -/
def compare_h : Nat → Option Head := hintOf [(12, ⟨[(0, .same), (1, .same), (5, .same)], 0⟩)]
def compare_b0 (l12 : List Int → List Int → Int → Option Int) (a : List Int) (b : List Int) : Option (Int) :=
  bif !decide ((↑(List.length a) : Int) = (↑(List.length b) : Int)) then bif decide ((↑(List.length a) : Int) < (↑(List.length b) : Int)) then some (-1 : Int) else some (1 : Int)
else l12 a b (subI IntKind.i64 (↑(List.length a) : Int) (1 : Int))
def compare_b12 (l12 : List Int → List Int → Int → Option Int) (t0 : List Int) (t1 : List Int) (t5 : Int) : Option (Int) :=
  bif decide (t5 ≥ (0 : Int)) then
  bif inRange t5 (List.length t0) then
    bif inRange t5 (List.length t1) then
      bif !decide (rdI t0 t5 = rdI t1 t5) then
        bif inRange t5 (List.length t0) then bif inRange t5 (List.length t1) then bif decide (rdI t0 t5 < rdI t1 t5) then some (-1 : Int) else some (1 : Int) else none else none
      else l12 t0 t1 (subI IntKind.i64 t5 (1 : Int))
    else none
  else none
else some (0 : Int)
mutual
def compare_L12 : Nat → (List Int) → (List Int) → Int → Option (Int)
  | 0, _, _, _ => none
  | k + 1, t0, t1, t5 => compare_b12 (compare_L12 k) t0 t1 t5
end
noncomputable def compare_E : Env (dens [.int .i64]) := envOf S.tab [] Go.Proofs.Try.f125 [4] [.int .i64]
theorem compare_s0 (r : Rec (dens [.int .i64])) (a : List Int) (b : List Int) : evT compare_E compare_h r 3000 false [.code (bodyOf Go.Proofs.Try.f125)] (T0 0 [.ints .i64 a, .ints .i64 b]) [] = compare_b0 (fun t0 t1 t5 => r (todoOf 12 (bodyOf Go.Proofs.Try.f125)) [((0 : Nat), AV.ints IntKind.i64 t0), ((1 : Nat), AV.ints IntKind.i64 t1), ((5 : Nat), AV.int IntKind.i64 t5)] []) a b := by kernel_rfl
theorem compare_s12 (r : Rec (dens [.int .i64])) (t0 : List Int) (t1 : List Int) (t5 : Int) : evT compare_E compare_h r 3000 true (todoOf 12 (bodyOf Go.Proofs.Try.f125)) [((0 : Nat), AV.ints IntKind.i64 t0), ((1 : Nat), AV.ints IntKind.i64 t1), ((5 : Nat), AV.int IntKind.i64 t5)] [] = compare_b12 (fun t0 t1 t5 => r (todoOf 12 (bodyOf Go.Proofs.Try.f125)) [((0 : Nat), AV.ints IntKind.i64 t0), ((1 : Nat), AV.ints IntKind.i64 t1), ((5 : Nat), AV.int IntKind.i64 t5)] []) t0 t1 t5 := by kernel_rfl
theorem compare_k : ∀ k, (∀ (t0 : List Int) (t1 : List Int) (t5 : Int), evK compare_E compare_h 3000 k (todoOf 12 (bodyOf Go.Proofs.Try.f125)) [((0 : Nat), AV.ints IntKind.i64 t0), ((1 : Nat), AV.ints IntKind.i64 t1), ((5 : Nat), AV.int IntKind.i64 t5)] [] = compare_L12 k t0 t1 t5)
  | 0 => by
    refine ?_ <;> intros <;> rfl
  | k + 1 => by
    have ih := compare_k k
    refine ?_ <;> intros
    · exact ((compare_s12 _ _ _ _).trans (by simp only [ih] <;> rfl))
theorem compare_ev (k : Nat) (a : List Int) (b : List Int) : evM compare_E compare_h 3000 k [.code (bodyOf Go.Proofs.Try.f125)] (T0 0 [.ints .i64 a, .ints .i64 b]) [] = compare_b0 (compare_L12 k) a b := by
  refine (compare_s0 _ a b).trans ?_
  simp only [compare_k k] <;> rfl

/-! ### plumb/plumbref02.Cmp -/
def rCmp_h : Nat → Option Head := hintOf []
def rCmp_b0  (a : List Int) (b : List Int) : Option (Int) :=
  Option.bind (digitsF a) fun t => Option.bind (digitsF b) fun t_1 => Option.bind (compareF (t, t_1)) fun t => some t
noncomputable def rCmp_E : Env (dens [.int .i64]) := envOf S.tab [(120, mkF [.sl (.int .u64)] [.sl (.int .i64)] digitsF), (125, mkF [.sl (.int .i64), .sl (.int .i64)] [.int .i64] compareF)] Go.Proofs.Try.f59 [4] [.int .i64]
theorem rCmp_s0 (r : Rec (dens [.int .i64])) (a : List Int) (b : List Int) : evT rCmp_E rCmp_h r 3000 false [.code (bodyOf Go.Proofs.Try.f59)] (T0 0 [.ints .u64 a, .ints .u64 b]) [] = rCmp_b0  a b := by kernel_rfl
theorem rCmp_ev (k : Nat) (a : List Int) (b : List Int) : evM rCmp_E rCmp_h 3000 k [.code (bodyOf Go.Proofs.Try.f59)] (T0 0 [.ints .u64 a, .ints .u64 b]) [] = rCmp_b0  a b := by
  exact rCmp_s0 _ a b

/-! ### plumb/plumbref02.plus -/
def plus_h : Nat → Option Head := hintOf [(6, ⟨[(0, .same), (1, .same), (5, .vec 3), (6, .same)], 1⟩)]
def plus_b0 (l6 : List Int → List Int → Int → List Int → Option (List Int)) (a : List Int) (b : List Int) : Option (List Int) :=
  l6 a b (0 : Int) []
def plus_b6 (l6 : List Int → List Int → Int → List Int → Option (List Int)) (t0 : List Int) (t1 : List Int) (t6 : Int) (h0 : List Int) : Option (List Int) :=
  bif decide (t6 < (↑(List.length t0) : Int)) then
  bif decide (t6 < (↑(List.length t0) : Int)) then
    bif inRange t6 (List.length t0) then
      bif decide (t6 < (↑(List.length t1) : Int)) then
        bif inRange t6 (List.length t1) then
          bif decide ((↑(List.length (h0 ++ [addI IntKind.i64 (addI IntKind.i64 (0 : Int) (rdI t0 t6)) (rdI t1 t6)])) : Int) * (8 : Int) ≤ (140737488355328 : Int)) then
            l6 t0 t1 (addI IntKind.i64 t6 (1 : Int)) (h0 ++ [addI IntKind.i64 (addI IntKind.i64 (0 : Int) (rdI t0 t6)) (rdI t1 t6)])
          else none
        else none
      else
        bif decide ((↑(List.length (h0 ++ [addI IntKind.i64 (0 : Int) (rdI t0 t6)])) : Int) * (8 : Int) ≤ (140737488355328 : Int)) then
          l6 t0 t1 (addI IntKind.i64 t6 (1 : Int)) (h0 ++ [addI IntKind.i64 (0 : Int) (rdI t0 t6)])
        else none
    else none
  else
    bif decide (t6 < (↑(List.length t1) : Int)) then
      bif inRange t6 (List.length t1) then
        bif decide ((↑(List.length (h0 ++ [addI IntKind.i64 (0 : Int) (rdI t1 t6)])) : Int) * (8 : Int) ≤ (140737488355328 : Int)) then
          l6 t0 t1 (addI IntKind.i64 t6 (1 : Int)) (h0 ++ [addI IntKind.i64 (0 : Int) (rdI t1 t6)])
        else none
      else none
    else bif decide ((↑(List.length (h0 ++ [(0 : Int)])) : Int) * (8 : Int) ≤ (140737488355328 : Int)) then l6 t0 t1 (addI IntKind.i64 t6 (1 : Int)) (h0 ++ [(0 : Int)]) else none
else
  bif decide (t6 < (↑(List.length t1) : Int)) then
    bif decide (t6 < (↑(List.length t0) : Int)) then
      bif inRange t6 (List.length t0) then
        bif decide (t6 < (↑(List.length t1) : Int)) then
          bif inRange t6 (List.length t1) then
            bif decide ((↑(List.length (h0 ++ [addI IntKind.i64 (addI IntKind.i64 (0 : Int) (rdI t0 t6)) (rdI t1 t6)])) : Int) * (8 : Int) ≤ (140737488355328 : Int)) then
              l6 t0 t1 (addI IntKind.i64 t6 (1 : Int)) (h0 ++ [addI IntKind.i64 (addI IntKind.i64 (0 : Int) (rdI t0 t6)) (rdI t1 t6)])
            else none
          else none
        else
          bif decide ((↑(List.length (h0 ++ [addI IntKind.i64 (0 : Int) (rdI t0 t6)])) : Int) * (8 : Int) ≤ (140737488355328 : Int)) then
            l6 t0 t1 (addI IntKind.i64 t6 (1 : Int)) (h0 ++ [addI IntKind.i64 (0 : Int) (rdI t0 t6)])
          else none
      else none
    else
      bif decide (t6 < (↑(List.length t1) : Int)) then
        bif inRange t6 (List.length t1) then
          bif decide ((↑(List.length (h0 ++ [addI IntKind.i64 (0 : Int) (rdI t1 t6)])) : Int) * (8 : Int) ≤ (140737488355328 : Int)) then
            l6 t0 t1 (addI IntKind.i64 t6 (1 : Int)) (h0 ++ [addI IntKind.i64 (0 : Int) (rdI t1 t6)])
          else none
        else none
      else bif decide ((↑(List.length (h0 ++ [(0 : Int)])) : Int) * (8 : Int) ≤ (140737488355328 : Int)) then l6 t0 t1 (addI IntKind.i64 t6 (1 : Int)) (h0 ++ [(0 : Int)]) else none
  else Option.bind (carriedF h0) fun t => some t
mutual
def plus_L6 : Nat → (List Int) → (List Int) → Int → (List Int) → Option (List Int)
  | 0, _, _, _, _ => none
  | k + 1, t0, t1, t6, h0 => plus_b6 (plus_L6 k) t0 t1 t6 h0
end
noncomputable def plus_E : Env (dens [.sl (.int .i64)]) := envOf S.tab [(122, mkF [.sl (.int .i64)] [.sl (.int .i64)] carriedF)] Go.Proofs.Try.f126 [4] [.sl (.int .i64)]
theorem plus_s0 (r : Rec (dens [.sl (.int .i64)])) (a : List Int) (b : List Int) : evT plus_E plus_h r 3000 false [.code (bodyOf Go.Proofs.Try.f126)] (T0 0 [.ints .i64 a, .ints .i64 b]) [] = plus_b0 (fun t0 t1 t6 h0 => r (todoOf 6 (bodyOf Go.Proofs.Try.f126)) [((0 : Nat), AV.ints IntKind.i64 t0), ((1 : Nat), AV.ints IntKind.i64 t1), ((5 : Nat), AV.vec (nat_lit 0) (nat_lit 1)), ((6 : Nat), AV.int IntKind.i64 t6)] [Blk.I (nat_lit 3) IntKind.i64 h0]) a b := by kernel_rfl
theorem plus_s6 (r : Rec (dens [.sl (.int .i64)])) (t0 : List Int) (t1 : List Int) (t6 : Int) (h0 : List Int) : evT plus_E plus_h r 3000 true (todoOf 6 (bodyOf Go.Proofs.Try.f126)) [((0 : Nat), AV.ints IntKind.i64 t0), ((1 : Nat), AV.ints IntKind.i64 t1), ((5 : Nat), AV.vec (nat_lit 0) (nat_lit 1)), ((6 : Nat), AV.int IntKind.i64 t6)] [Blk.I (nat_lit 3) IntKind.i64 h0] = plus_b6 (fun t0 t1 t6 h0 => r (todoOf 6 (bodyOf Go.Proofs.Try.f126)) [((0 : Nat), AV.ints IntKind.i64 t0), ((1 : Nat), AV.ints IntKind.i64 t1), ((5 : Nat), AV.vec (nat_lit 0) (nat_lit 1)), ((6 : Nat), AV.int IntKind.i64 t6)] [Blk.I (nat_lit 3) IntKind.i64 h0]) t0 t1 t6 h0 := by kernel_rfl
theorem plus_k : ∀ k, (∀ (t0 : List Int) (t1 : List Int) (t6 : Int) (h0 : List Int), evK plus_E plus_h 3000 k (todoOf 6 (bodyOf Go.Proofs.Try.f126)) [((0 : Nat), AV.ints IntKind.i64 t0), ((1 : Nat), AV.ints IntKind.i64 t1), ((5 : Nat), AV.vec (nat_lit 0) (nat_lit 1)), ((6 : Nat), AV.int IntKind.i64 t6)] [Blk.I (nat_lit 3) IntKind.i64 h0] = plus_L6 k t0 t1 t6 h0)
  | 0 => by
    refine ?_ <;> intros <;> rfl
  | k + 1 => by
    have ih := plus_k k
    refine ?_ <;> intros
    · exact ((plus_s6 _ _ _ _ _).trans (by simp only [ih] <;> rfl))
theorem plus_ev (k : Nat) (a : List Int) (b : List Int) : evM plus_E plus_h 3000 k [.code (bodyOf Go.Proofs.Try.f126)] (T0 0 [.ints .i64 a, .ints .i64 b]) [] = plus_b0 (plus_L6 k) a b := by
  refine (plus_s0 _ a b).trans ?_
  simp only [plus_k k] <;> rfl

/-! ### plumb/plumbref02.Add -/
def rAdd_h : Nat → Option Head := hintOf []
def rAdd_b0  (a : List Int) (b : List Int) : Option (List Int × Int) :=
  Option.bind (digitsF a) fun t => Option.bind (digitsF b) fun t_1 => Option.bind (plusF (t, t_1)) fun t => Option.bind (rtoldF t) fun t => some (t.1, t.2)
noncomputable def rAdd_E : Env (dens [.sl (.int .u64), .int .i64]) := envOf S.tab [(120, mkF [.sl (.int .u64)] [.sl (.int .i64)] digitsF), (126, mkF [.sl (.int .i64), .sl (.int .i64)] [.sl (.int .i64)] plusF), (121, mkF [.sl (.int .i64)] [.sl (.int .u64), .int .i64] rtoldF)] Go.Proofs.Try.f64 [4, 5] [.sl (.int .u64), .int .i64]
theorem rAdd_s0 (r : Rec (dens [.sl (.int .u64), .int .i64])) (a : List Int) (b : List Int) : evT rAdd_E rAdd_h r 3000 false [.code (bodyOf Go.Proofs.Try.f64)] (T0 0 [.ints .u64 a, .ints .u64 b]) [] = rAdd_b0  a b := by kernel_rfl
theorem rAdd_ev (k : Nat) (a : List Int) (b : List Int) : evM rAdd_E rAdd_h 3000 k [.code (bodyOf Go.Proofs.Try.f64)] (T0 0 [.ints .u64 a, .ints .u64 b]) [] = rAdd_b0  a b := by
  exact rAdd_s0 _ a b

/-! ### plumb/plumbref02.Sum -/
def rSum_h : Nat → Option Head := hintOf [(6, ⟨[(0, .same), (4, .fit (.sl (.int .i64))), (5, .same)], 0⟩)]
def rSum_b0 (l6 : List AV → List Int → Int → Option (List Int × Int)) (a : List AV) : Option (List Int × Int) :=
  l6 a [] (0 : Int)
def rSum_b6 (l6 : List AV → List Int → Int → Option (List Int × Int)) (t0 : List AV) (t4 : List Int) (t5 : Int) : Option (List Int × Int) :=
  bif decide (t5 < (↑(List.length t0) : Int)) then
  bif inRange t5 (List.length t0) then Option.bind (digitsF (AV.asInts (aget t0 (Int.toNat t5)))) fun t => Option.bind (plusF (t4, t)) fun t => l6 t0 t (addI IntKind.i64 t5 (1 : Int)) else none
else Option.bind (rtoldF t4) fun t => some (t.1, t.2)
mutual
def rSum_L6 : Nat → (List AV) → (List Int) → Int → Option (List Int × Int)
  | 0, _, _, _ => none
  | k + 1, t0, t4, t5 => rSum_b6 (rSum_L6 k) t0 t4 t5
end
noncomputable def rSum_E : Env (dens [.sl (.int .u64), .int .i64]) := envOf S.tab [(120, mkF [.sl (.int .u64)] [.sl (.int .i64)] digitsF), (126, mkF [.sl (.int .i64), .sl (.int .i64)] [.sl (.int .i64)] plusF), (121, mkF [.sl (.int .i64)] [.sl (.int .u64), .int .i64] rtoldF)] Go.Proofs.Try.f66 [2, 3] [.sl (.int .u64), .int .i64]
theorem rSum_s0 (r : Rec (dens [.sl (.int .u64), .int .i64])) (a : List AV) : evT rSum_E rSum_h r 3000 false [.code (bodyOf Go.Proofs.Try.f66)] (T0 0 [.list (.sl (.int .u64)) a]) [] = rSum_b0 (fun t0 t4 t5 => r (todoOf 6 (bodyOf Go.Proofs.Try.f66)) [((0 : Nat), AV.list (ETy.sl (ETy.int IntKind.u64)) t0), ((4 : Nat), AV.ints IntKind.i64 t4), ((5 : Nat), AV.int IntKind.i64 t5)] []) a := by kernel_rfl
theorem rSum_s6 (r : Rec (dens [.sl (.int .u64), .int .i64])) (t0 : List AV) (t4 : List Int) (t5 : Int) : evT rSum_E rSum_h r 3000 true (todoOf 6 (bodyOf Go.Proofs.Try.f66)) [((0 : Nat), AV.list (ETy.sl (ETy.int IntKind.u64)) t0), ((4 : Nat), AV.ints IntKind.i64 t4), ((5 : Nat), AV.int IntKind.i64 t5)] [] = rSum_b6 (fun t0 t4 t5 => r (todoOf 6 (bodyOf Go.Proofs.Try.f66)) [((0 : Nat), AV.list (ETy.sl (ETy.int IntKind.u64)) t0), ((4 : Nat), AV.ints IntKind.i64 t4), ((5 : Nat), AV.int IntKind.i64 t5)] []) t0 t4 t5 := by kernel_rfl
theorem rSum_k : ∀ k, (∀ (t0 : List AV) (t4 : List Int) (t5 : Int), evK rSum_E rSum_h 3000 k (todoOf 6 (bodyOf Go.Proofs.Try.f66)) [((0 : Nat), AV.list (ETy.sl (ETy.int IntKind.u64)) t0), ((4 : Nat), AV.ints IntKind.i64 t4), ((5 : Nat), AV.int IntKind.i64 t5)] [] = rSum_L6 k t0 t4 t5)
  | 0 => by
    refine ?_ <;> intros <;> rfl
  | k + 1 => by
    have ih := rSum_k k
    refine ?_ <;> intros
    · exact ((rSum_s6 _ _ _ _).trans (by simp only [ih] <;> rfl))
theorem rSum_ev (k : Nat) (a : List AV) : evM rSum_E rSum_h 3000 k [.code (bodyOf Go.Proofs.Try.f66)] (T0 0 [.list (.sl (.int .u64)) a]) [] = rSum_b0 (rSum_L6 k) a := by
  refine (rSum_s0 _ a).trans ?_
  simp only [rSum_k k] <;> rfl

/-! ### plumb/plumbref02.Sub -/
def rSub_h : Nat → Option Head := hintOf [(16, ⟨[(6, .same), (7, .same), (8, .vec 3), (9, .same), (10, .same)], 1⟩)]
def rSub_b0 (l16 : List Int → List Int → Int → Int → List Int → Option (List Int × Int)) (a : List Int) (b : List Int) : Option (List Int × Int) :=
  Option.bind (digitsF a) fun t =>
  Option.bind (digitsF b) fun t_1 => Option.bind (compareF (t, t_1)) fun t_2 => bif decide (t_2 < (0 : Int)) then some ([], (20 : Int)) else l16 t t_1 (0 : Int) (0 : Int) []
def rSub_b16 (l16 : List Int → List Int → Int → Int → List Int → Option (List Int × Int)) (t6 : List Int) (t7 : List Int) (t9 : Int) (t10 : Int) (h0 : List Int) : Option (List Int × Int) :=
  bif decide (t10 < (↑(List.length t6) : Int)) then
  bif inRange t10 (List.length t6) then
    bif decide (t10 < (↑(List.length t7) : Int)) then
      bif inRange t10 (List.length t7) then
        bif decide (subI IntKind.i64 (subI IntKind.i64 (rdI t6 t10) t9) (rdI t7 t10) < (0 : Int)) then
          bif decide ((↑(List.length (h0 ++ [addI IntKind.i64 (subI IntKind.i64 (subI IntKind.i64 (rdI t6 t10) t9) (rdI t7 t10)) (65536 : Int)])) : Int) * (8 : Int) ≤ (140737488355328 : Int)) then
            l16 t6 t7 (1 : Int) (addI IntKind.i64 t10 (1 : Int)) (h0 ++ [addI IntKind.i64 (subI IntKind.i64 (subI IntKind.i64 (rdI t6 t10) t9) (rdI t7 t10)) (65536 : Int)])
          else none
        else
          bif decide ((↑(List.length (h0 ++ [subI IntKind.i64 (subI IntKind.i64 (rdI t6 t10) t9) (rdI t7 t10)])) : Int) * (8 : Int) ≤ (140737488355328 : Int)) then
            l16 t6 t7 (0 : Int) (addI IntKind.i64 t10 (1 : Int)) (h0 ++ [subI IntKind.i64 (subI IntKind.i64 (rdI t6 t10) t9) (rdI t7 t10)])
          else none
      else none
    else
      bif decide (subI IntKind.i64 (rdI t6 t10) t9 < (0 : Int)) then
        bif decide ((↑(List.length (h0 ++ [addI IntKind.i64 (subI IntKind.i64 (rdI t6 t10) t9) (65536 : Int)])) : Int) * (8 : Int) ≤ (140737488355328 : Int)) then
          l16 t6 t7 (1 : Int) (addI IntKind.i64 t10 (1 : Int)) (h0 ++ [addI IntKind.i64 (subI IntKind.i64 (rdI t6 t10) t9) (65536 : Int)])
        else none
      else
        bif decide ((↑(List.length (h0 ++ [subI IntKind.i64 (rdI t6 t10) t9])) : Int) * (8 : Int) ≤ (140737488355328 : Int)) then
          l16 t6 t7 (0 : Int) (addI IntKind.i64 t10 (1 : Int)) (h0 ++ [subI IntKind.i64 (rdI t6 t10) t9])
        else none
  else none
else Option.bind (rtoldF h0) fun t => some (t.1, t.2)
mutual
def rSub_L16 : Nat → (List Int) → (List Int) → Int → Int → (List Int) → Option (List Int × Int)
  | 0, _, _, _, _, _ => none
  | k + 1, t6, t7, t9, t10, h0 => rSub_b16 (rSub_L16 k) t6 t7 t9 t10 h0
end
noncomputable def rSub_E : Env (dens [.sl (.int .u64), .int .i64]) := envOf S.tab [(120, mkF [.sl (.int .u64)] [.sl (.int .i64)] digitsF), (125, mkF [.sl (.int .i64), .sl (.int .i64)] [.int .i64] compareF), (121, mkF [.sl (.int .i64)] [.sl (.int .u64), .int .i64] rtoldF)] Go.Proofs.Try.f65 [4, 5] [.sl (.int .u64), .int .i64]
theorem rSub_s0 (r : Rec (dens [.sl (.int .u64), .int .i64])) (a : List Int) (b : List Int) : evT rSub_E rSub_h r 3000 false [.code (bodyOf Go.Proofs.Try.f65)] (T0 0 [.ints .u64 a, .ints .u64 b]) [] = rSub_b0 (fun t6 t7 t9 t10 h0 => r (todoOf 16 (bodyOf Go.Proofs.Try.f65)) [((6 : Nat), AV.ints IntKind.i64 t6), ((7 : Nat), AV.ints IntKind.i64 t7), ((8 : Nat), AV.vec (nat_lit 0) (nat_lit 1)), ((9 : Nat), AV.int IntKind.i64 t9), ((10 : Nat), AV.int IntKind.i64 t10)] [Blk.I (nat_lit 3) IntKind.i64 h0]) a b := by kernel_rfl
theorem rSub_s16 (r : Rec (dens [.sl (.int .u64), .int .i64])) (t6 : List Int) (t7 : List Int) (t9 : Int) (t10 : Int) (h0 : List Int) : evT rSub_E rSub_h r 3000 true (todoOf 16 (bodyOf Go.Proofs.Try.f65)) [((6 : Nat), AV.ints IntKind.i64 t6), ((7 : Nat), AV.ints IntKind.i64 t7), ((8 : Nat), AV.vec (nat_lit 0) (nat_lit 1)), ((9 : Nat), AV.int IntKind.i64 t9), ((10 : Nat), AV.int IntKind.i64 t10)] [Blk.I (nat_lit 3) IntKind.i64 h0] = rSub_b16 (fun t6 t7 t9 t10 h0 => r (todoOf 16 (bodyOf Go.Proofs.Try.f65)) [((6 : Nat), AV.ints IntKind.i64 t6), ((7 : Nat), AV.ints IntKind.i64 t7), ((8 : Nat), AV.vec (nat_lit 0) (nat_lit 1)), ((9 : Nat), AV.int IntKind.i64 t9), ((10 : Nat), AV.int IntKind.i64 t10)] [Blk.I (nat_lit 3) IntKind.i64 h0]) t6 t7 t9 t10 h0 := by kernel_rfl
theorem rSub_k : ∀ k, (∀ (t6 : List Int) (t7 : List Int) (t9 : Int) (t10 : Int) (h0 : List Int), evK rSub_E rSub_h 3000 k (todoOf 16 (bodyOf Go.Proofs.Try.f65)) [((6 : Nat), AV.ints IntKind.i64 t6), ((7 : Nat), AV.ints IntKind.i64 t7), ((8 : Nat), AV.vec (nat_lit 0) (nat_lit 1)), ((9 : Nat), AV.int IntKind.i64 t9), ((10 : Nat), AV.int IntKind.i64 t10)] [Blk.I (nat_lit 3) IntKind.i64 h0] = rSub_L16 k t6 t7 t9 t10 h0)
  | 0 => by
    refine ?_ <;> intros <;> rfl
  | k + 1 => by
    have ih := rSub_k k
    refine ?_ <;> intros
    · exact ((rSub_s16 _ _ _ _ _ _).trans (by simp only [ih] <;> rfl))
theorem rSub_ev (k : Nat) (a : List Int) (b : List Int) : evM rSub_E rSub_h 3000 k [.code (bodyOf Go.Proofs.Try.f65)] (T0 0 [.ints .u64 a, .ints .u64 b]) [] = rSub_b0 (rSub_L16 k) a b := by
  refine (rSub_s0 _ a b).trans ?_
  simp only [rSub_k k] <;> rfl

/-! ### plumb/plumbref02.Mul -/
def rMul_h : Nat → Option Head := hintOf [(18, ⟨[(6, .same), (7, .same), (8, .same), (9, .same)], 1⟩), (26, ⟨[(6, .same), (7, .same), (8, .same), (9, .same), (10, .same), (11, .same)], 1⟩)]
def rMul_b0 (l18 : List Int → List Int → Int → List Int → Option (List Int × Int)) (l26 : List Int → List Int → Int → Int → Int → List Int → Option (List Int × Int)) (a : List Int) (b : List Int) : Option (List Int × Int) :=
  Option.bind (digitsF a) fun t =>
  Option.bind (digitsF b) fun t_1 =>
    bif decide ((↑(List.length t) : Int) = (0 : Int)) then some ([], (0 : Int))
    else
      bif decide ((↑(List.length t_1) : Int) = (0 : Int)) then some ([], (0 : Int))
      else
        bif decide (addI IntKind.i64 (↑(List.length t) : Int) (↑(List.length t_1) : Int) > (16385 : Int)) then some ([], (21 : Int))
        else
          bif
              bif decide ((0 : Int) ≤ addI IntKind.i64 (↑(List.length t) : Int) (↑(List.length t_1) : Int)) then
                decide (addI IntKind.i64 (↑(List.length t) : Int) (↑(List.length t_1) : Int) * (8 : Int) ≤ (281474976710656 : Int))
              else false then
            l18 t t_1 (0 : Int) (List.replicate (Int.toNat (addI IntKind.i64 (↑(List.length t) : Int) (↑(List.length t_1) : Int))) (0 : Int))
          else none
def rMul_b18 (l18 : List Int → List Int → Int → List Int → Option (List Int × Int)) (l26 : List Int → List Int → Int → Int → Int → List Int → Option (List Int × Int)) (t6 : List Int) (t7 : List Int) (t9 : Int) (h0 : List Int) : Option (List Int × Int) :=
  bif decide (t9 < (↑(List.length t6) : Int)) then l26 t6 t7 t9 (0 : Int) (0 : Int) h0 else Option.bind (rtoldF h0) fun t => some (t.1, t.2)
def rMul_b26 (l18 : List Int → List Int → Int → List Int → Option (List Int × Int)) (l26 : List Int → List Int → Int → Int → Int → List Int → Option (List Int × Int)) (t6 : List Int) (t7 : List Int) (t9 : Int) (t10 : Int) (t11 : Int) (h0 : List Int) : Option (List Int × Int) :=
  bif decide (t11 < (↑(List.length t7) : Int)) then
  bif inRange (addI IntKind.i64 t9 t11) (List.length h0) then
    bif decide (t11 < (↑(List.length t7) : Int)) then
      bif inRange t9 (List.length t6) then
        bif inRange t11 (List.length t7) then
          bif inRange (addI IntKind.i64 t9 t11) (List.length h0) then
            l26 t6 t7 t9 (divI IntKind.i64 (addI IntKind.i64 (addI IntKind.i64 (rdN h0 (Int.toNat (addI IntKind.i64 t9 t11))) t10) (mulI IntKind.i64 (rdI t6 t9) (rdI t7 t11))) (65536 : Int))
              (addI IntKind.i64 t11 (1 : Int))
              (wrI h0 (Int.toNat (addI IntKind.i64 t9 t11))
                (remI (addI IntKind.i64 (addI IntKind.i64 (rdN h0 (Int.toNat (addI IntKind.i64 t9 t11))) t10) (mulI IntKind.i64 (rdI t6 t9) (rdI t7 t11))) (65536 : Int)))
          else none
        else none
      else none
    else
      bif inRange (addI IntKind.i64 t9 t11) (List.length h0) then
        l26 t6 t7 t9 (divI IntKind.i64 (addI IntKind.i64 (rdN h0 (Int.toNat (addI IntKind.i64 t9 t11))) t10) (65536 : Int)) (addI IntKind.i64 t11 (1 : Int))
          (wrI h0 (Int.toNat (addI IntKind.i64 t9 t11)) (remI (addI IntKind.i64 (rdN h0 (Int.toNat (addI IntKind.i64 t9 t11))) t10) (65536 : Int)))
      else none
  else none
else
  bif decide (t10 > (0 : Int)) then
    bif inRange (addI IntKind.i64 t9 t11) (List.length h0) then
      bif decide (t11 < (↑(List.length t7) : Int)) then
        bif inRange t9 (List.length t6) then
          bif inRange t11 (List.length t7) then
            bif inRange (addI IntKind.i64 t9 t11) (List.length h0) then
              l26 t6 t7 t9 (divI IntKind.i64 (addI IntKind.i64 (addI IntKind.i64 (rdN h0 (Int.toNat (addI IntKind.i64 t9 t11))) t10) (mulI IntKind.i64 (rdI t6 t9) (rdI t7 t11))) (65536 : Int))
                (addI IntKind.i64 t11 (1 : Int))
                (wrI h0 (Int.toNat (addI IntKind.i64 t9 t11))
                  (remI (addI IntKind.i64 (addI IntKind.i64 (rdN h0 (Int.toNat (addI IntKind.i64 t9 t11))) t10) (mulI IntKind.i64 (rdI t6 t9) (rdI t7 t11))) (65536 : Int)))
            else none
          else none
        else none
      else
        bif inRange (addI IntKind.i64 t9 t11) (List.length h0) then
          l26 t6 t7 t9 (divI IntKind.i64 (addI IntKind.i64 (rdN h0 (Int.toNat (addI IntKind.i64 t9 t11))) t10) (65536 : Int)) (addI IntKind.i64 t11 (1 : Int))
            (wrI h0 (Int.toNat (addI IntKind.i64 t9 t11)) (remI (addI IntKind.i64 (rdN h0 (Int.toNat (addI IntKind.i64 t9 t11))) t10) (65536 : Int)))
        else none
    else none
  else l18 t6 t7 (addI IntKind.i64 t9 (1 : Int)) h0
mutual
def rMul_L18 : Nat → (List Int) → (List Int) → Int → (List Int) → Option (List Int × Int)
  | 0, _, _, _, _ => none
  | k + 1, t6, t7, t9, h0 => rMul_b18 (rMul_L18 k) (rMul_L26 k) t6 t7 t9 h0
def rMul_L26 : Nat → (List Int) → (List Int) → Int → Int → Int → (List Int) → Option (List Int × Int)
  | 0, _, _, _, _, _, _ => none
  | k + 1, t6, t7, t9, t10, t11, h0 => rMul_b26 (rMul_L18 k) (rMul_L26 k) t6 t7 t9 t10 t11 h0
end
noncomputable def rMul_E : Env (dens [.sl (.int .u64), .int .i64]) := envOf S.tab [(120, mkF [.sl (.int .u64)] [.sl (.int .i64)] digitsF), (121, mkF [.sl (.int .i64)] [.sl (.int .u64), .int .i64] rtoldF)] Go.Proofs.Try.f67 [4, 5] [.sl (.int .u64), .int .i64]
theorem rMul_s0 (r : Rec (dens [.sl (.int .u64), .int .i64])) (a : List Int) (b : List Int) : evT rMul_E rMul_h r 3000 false [.code (bodyOf Go.Proofs.Try.f67)] (T0 0 [.ints .u64 a, .ints .u64 b]) [] = rMul_b0 (fun t6 t7 t9 h0 => r (todoOf 18 (bodyOf Go.Proofs.Try.f67)) [((6 : Nat), AV.ints IntKind.i64 t6), ((7 : Nat), AV.ints IntKind.i64 t7), ((8 : Nat), AV.vec (nat_lit 0) (nat_lit 1)), ((9 : Nat), AV.int IntKind.i64 t9)] [Blk.I (nat_lit 3) IntKind.i64 h0]) (fun t6 t7 t9 t10 t11 h0 => r (todoOf 26 (bodyOf Go.Proofs.Try.f67)) [((6 : Nat), AV.ints IntKind.i64 t6), ((7 : Nat), AV.ints IntKind.i64 t7), ((8 : Nat), AV.vec (nat_lit 0) (nat_lit 1)), ((9 : Nat), AV.int IntKind.i64 t9), ((10 : Nat), AV.int IntKind.i64 t10),
  ((11 : Nat), AV.int IntKind.i64 t11)] [Blk.I (nat_lit 3) IntKind.i64 h0]) a b := by kernel_rfl
theorem rMul_s18 (r : Rec (dens [.sl (.int .u64), .int .i64])) (t6 : List Int) (t7 : List Int) (t9 : Int) (h0 : List Int) : evT rMul_E rMul_h r 3000 true (todoOf 18 (bodyOf Go.Proofs.Try.f67)) [((6 : Nat), AV.ints IntKind.i64 t6), ((7 : Nat), AV.ints IntKind.i64 t7), ((8 : Nat), AV.vec (nat_lit 0) (nat_lit 1)), ((9 : Nat), AV.int IntKind.i64 t9)] [Blk.I (nat_lit 3) IntKind.i64 h0] = rMul_b18 (fun t6 t7 t9 h0 => r (todoOf 18 (bodyOf Go.Proofs.Try.f67)) [((6 : Nat), AV.ints IntKind.i64 t6), ((7 : Nat), AV.ints IntKind.i64 t7), ((8 : Nat), AV.vec (nat_lit 0) (nat_lit 1)), ((9 : Nat), AV.int IntKind.i64 t9)] [Blk.I (nat_lit 3) IntKind.i64 h0]) (fun t6 t7 t9 t10 t11 h0 => r (todoOf 26 (bodyOf Go.Proofs.Try.f67)) [((6 : Nat), AV.ints IntKind.i64 t6), ((7 : Nat), AV.ints IntKind.i64 t7), ((8 : Nat), AV.vec (nat_lit 0) (nat_lit 1)), ((9 : Nat), AV.int IntKind.i64 t9), ((10 : Nat), AV.int IntKind.i64 t10),
  ((11 : Nat), AV.int IntKind.i64 t11)] [Blk.I (nat_lit 3) IntKind.i64 h0]) t6 t7 t9 h0 := by kernel_rfl
theorem rMul_s26 (r : Rec (dens [.sl (.int .u64), .int .i64])) (t6 : List Int) (t7 : List Int) (t9 : Int) (t10 : Int) (t11 : Int) (h0 : List Int) : evT rMul_E rMul_h r 3000 true (todoOf 26 (bodyOf Go.Proofs.Try.f67)) [((6 : Nat), AV.ints IntKind.i64 t6), ((7 : Nat), AV.ints IntKind.i64 t7), ((8 : Nat), AV.vec (nat_lit 0) (nat_lit 1)), ((9 : Nat), AV.int IntKind.i64 t9), ((10 : Nat), AV.int IntKind.i64 t10),
  ((11 : Nat), AV.int IntKind.i64 t11)] [Blk.I (nat_lit 3) IntKind.i64 h0] = rMul_b26 (fun t6 t7 t9 h0 => r (todoOf 18 (bodyOf Go.Proofs.Try.f67)) [((6 : Nat), AV.ints IntKind.i64 t6), ((7 : Nat), AV.ints IntKind.i64 t7), ((8 : Nat), AV.vec (nat_lit 0) (nat_lit 1)), ((9 : Nat), AV.int IntKind.i64 t9)] [Blk.I (nat_lit 3) IntKind.i64 h0]) (fun t6 t7 t9 t10 t11 h0 => r (todoOf 26 (bodyOf Go.Proofs.Try.f67)) [((6 : Nat), AV.ints IntKind.i64 t6), ((7 : Nat), AV.ints IntKind.i64 t7), ((8 : Nat), AV.vec (nat_lit 0) (nat_lit 1)), ((9 : Nat), AV.int IntKind.i64 t9), ((10 : Nat), AV.int IntKind.i64 t10),
  ((11 : Nat), AV.int IntKind.i64 t11)] [Blk.I (nat_lit 3) IntKind.i64 h0]) t6 t7 t9 t10 t11 h0 := by kernel_rfl
theorem rMul_k : ∀ k, (∀ (t6 : List Int) (t7 : List Int) (t9 : Int) (h0 : List Int), evK rMul_E rMul_h 3000 k (todoOf 18 (bodyOf Go.Proofs.Try.f67)) [((6 : Nat), AV.ints IntKind.i64 t6), ((7 : Nat), AV.ints IntKind.i64 t7), ((8 : Nat), AV.vec (nat_lit 0) (nat_lit 1)), ((9 : Nat), AV.int IntKind.i64 t9)] [Blk.I (nat_lit 3) IntKind.i64 h0] = rMul_L18 k t6 t7 t9 h0) ∧ (∀ (t6 : List Int) (t7 : List Int) (t9 : Int) (t10 : Int) (t11 : Int) (h0 : List Int), evK rMul_E rMul_h 3000 k (todoOf 26 (bodyOf Go.Proofs.Try.f67)) [((6 : Nat), AV.ints IntKind.i64 t6), ((7 : Nat), AV.ints IntKind.i64 t7), ((8 : Nat), AV.vec (nat_lit 0) (nat_lit 1)), ((9 : Nat), AV.int IntKind.i64 t9), ((10 : Nat), AV.int IntKind.i64 t10),
  ((11 : Nat), AV.int IntKind.i64 t11)] [Blk.I (nat_lit 3) IntKind.i64 h0] = rMul_L26 k t6 t7 t9 t10 t11 h0)
  | 0 => by
    refine ⟨?_, ?_⟩ <;> intros <;> rfl
  | k + 1 => by
    have ih := rMul_k k
    refine ⟨?_, ?_⟩ <;> intros
    · exact ((rMul_s18 _ _ _ _ _).trans (by simp only [ih] <;> rfl))
    · exact ((rMul_s26 _ _ _ _ _ _ _).trans (by simp only [ih] <;> rfl))
theorem rMul_ev (k : Nat) (a : List Int) (b : List Int) : evM rMul_E rMul_h 3000 k [.code (bodyOf Go.Proofs.Try.f67)] (T0 0 [.ints .u64 a, .ints .u64 b]) [] = rMul_b0 (rMul_L18 k) (rMul_L26 k) a b := by
  refine (rMul_s0 _ a b).trans ?_
  simp only [rMul_k k] <;> rfl

/-! ### plumb/plumbref02.Shl -/
def rShl_h : Nat → Option Head := hintOf [(22, ⟨[(1, .same), (6, .same), (7, .same), (8, .same), (9, .same)], 1⟩), (30, ⟨[(6, .same), (7, .same), (8, .same), (10, .same)], 1⟩)]
def rShl_b0 (l22 : Int → List Int → Int → Int → List Int → Option (List Int × Int)) (l30 : List Int → Int → Int → List Int → Option (List Int × Int)) (a : List Int) (b : Int) : Option (List Int × Int) :=
  bif decide (b < (0 : Int)) then some ([], (22 : Int))
else
  Option.bind (digitsF a) fun t =>
    bif decide ((↑(List.length t) : Int) = (0 : Int)) then some ([], (0 : Int))
    else
      bif decide (b > (262144 : Int)) then some ([], (21 : Int))
      else
        bif bif decide ((0 : Int) ≤ divI IntKind.i64 b (16 : Int)) then decide (divI IntKind.i64 b (16 : Int) * (8 : Int) ≤ (281474976710656 : Int)) else false then
          l22 b t (1 : Int) (0 : Int) (List.replicate (Int.toNat (divI IntKind.i64 b (16 : Int))) (0 : Int))
        else none
def rShl_b22 (l22 : Int → List Int → Int → Int → List Int → Option (List Int × Int)) (l30 : List Int → Int → Int → List Int → Option (List Int × Int)) (t1 : Int) (t6 : List Int) (t8 : Int) (t9 : Int) (h0 : List Int) : Option (List Int × Int) :=
  bif decide (t9 < remI t1 (16 : Int)) then l22 t1 t6 (mulI IntKind.i64 t8 (2 : Int)) (addI IntKind.i64 t9 (1 : Int)) h0 else l30 t6 t8 (0 : Int) h0
def rShl_b30 (l22 : Int → List Int → Int → Int → List Int → Option (List Int × Int)) (l30 : List Int → Int → Int → List Int → Option (List Int × Int)) (t6 : List Int) (t8 : Int) (t10 : Int) (h0 : List Int) : Option (List Int × Int) :=
  bif decide (t10 < (↑(List.length t6) : Int)) then
  bif inRange t10 (List.length t6) then
    bif decide ((↑(List.length (h0 ++ [mulI IntKind.i64 (rdI t6 t10) t8])) : Int) * (8 : Int) ≤ (140737488355328 : Int)) then
      l30 t6 t8 (addI IntKind.i64 t10 (1 : Int)) (h0 ++ [mulI IntKind.i64 (rdI t6 t10) t8])
    else none
  else none
else Option.bind (carriedF h0) fun t => Option.bind (rtoldF t) fun t => some (t.1, t.2)
mutual
def rShl_L22 : Nat → Int → (List Int) → Int → Int → (List Int) → Option (List Int × Int)
  | 0, _, _, _, _, _ => none
  | k + 1, t1, t6, t8, t9, h0 => rShl_b22 (rShl_L22 k) (rShl_L30 k) t1 t6 t8 t9 h0
def rShl_L30 : Nat → (List Int) → Int → Int → (List Int) → Option (List Int × Int)
  | 0, _, _, _, _ => none
  | k + 1, t6, t8, t10, h0 => rShl_b30 (rShl_L22 k) (rShl_L30 k) t6 t8 t10 h0
end
noncomputable def rShl_E : Env (dens [.sl (.int .u64), .int .i64]) := envOf S.tab [(120, mkF [.sl (.int .u64)] [.sl (.int .i64)] digitsF), (122, mkF [.sl (.int .i64)] [.sl (.int .i64)] carriedF), (121, mkF [.sl (.int .i64)] [.sl (.int .u64), .int .i64] rtoldF)] Go.Proofs.Try.f51 [4, 5] [.sl (.int .u64), .int .i64]
theorem rShl_s0 (r : Rec (dens [.sl (.int .u64), .int .i64])) (a : List Int) (b : Int) : evT rShl_E rShl_h r 3000 false [.code (bodyOf Go.Proofs.Try.f51)] (T0 0 [.ints .u64 a, .int .i64 b]) [] = rShl_b0 (fun t1 t6 t8 t9 h0 => r (todoOf 22 (bodyOf Go.Proofs.Try.f51)) [((1 : Nat), AV.int IntKind.i64 t1), ((6 : Nat), AV.ints IntKind.i64 t6), ((7 : Nat), AV.vec (nat_lit 0) (nat_lit 1)), ((8 : Nat), AV.int IntKind.i64 t8), ((9 : Nat), AV.int IntKind.i64 t9)] [Blk.I (nat_lit 3) IntKind.i64 h0]) (fun t6 t8 t10 h0 => r (todoOf 30 (bodyOf Go.Proofs.Try.f51)) [((6 : Nat), AV.ints IntKind.i64 t6), ((7 : Nat), AV.vec (nat_lit 0) (nat_lit 1)), ((8 : Nat), AV.int IntKind.i64 t8), ((10 : Nat), AV.int IntKind.i64 t10)] [Blk.I (nat_lit 3) IntKind.i64 h0]) a b := by kernel_rfl
theorem rShl_s22 (r : Rec (dens [.sl (.int .u64), .int .i64])) (t1 : Int) (t6 : List Int) (t8 : Int) (t9 : Int) (h0 : List Int) : evT rShl_E rShl_h r 3000 true (todoOf 22 (bodyOf Go.Proofs.Try.f51)) [((1 : Nat), AV.int IntKind.i64 t1), ((6 : Nat), AV.ints IntKind.i64 t6), ((7 : Nat), AV.vec (nat_lit 0) (nat_lit 1)), ((8 : Nat), AV.int IntKind.i64 t8), ((9 : Nat), AV.int IntKind.i64 t9)] [Blk.I (nat_lit 3) IntKind.i64 h0] = rShl_b22 (fun t1 t6 t8 t9 h0 => r (todoOf 22 (bodyOf Go.Proofs.Try.f51)) [((1 : Nat), AV.int IntKind.i64 t1), ((6 : Nat), AV.ints IntKind.i64 t6), ((7 : Nat), AV.vec (nat_lit 0) (nat_lit 1)), ((8 : Nat), AV.int IntKind.i64 t8), ((9 : Nat), AV.int IntKind.i64 t9)] [Blk.I (nat_lit 3) IntKind.i64 h0]) (fun t6 t8 t10 h0 => r (todoOf 30 (bodyOf Go.Proofs.Try.f51)) [((6 : Nat), AV.ints IntKind.i64 t6), ((7 : Nat), AV.vec (nat_lit 0) (nat_lit 1)), ((8 : Nat), AV.int IntKind.i64 t8), ((10 : Nat), AV.int IntKind.i64 t10)] [Blk.I (nat_lit 3) IntKind.i64 h0]) t1 t6 t8 t9 h0 := by kernel_rfl
theorem rShl_s30 (r : Rec (dens [.sl (.int .u64), .int .i64])) (t6 : List Int) (t8 : Int) (t10 : Int) (h0 : List Int) : evT rShl_E rShl_h r 3000 true (todoOf 30 (bodyOf Go.Proofs.Try.f51)) [((6 : Nat), AV.ints IntKind.i64 t6), ((7 : Nat), AV.vec (nat_lit 0) (nat_lit 1)), ((8 : Nat), AV.int IntKind.i64 t8), ((10 : Nat), AV.int IntKind.i64 t10)] [Blk.I (nat_lit 3) IntKind.i64 h0] = rShl_b30 (fun t1 t6 t8 t9 h0 => r (todoOf 22 (bodyOf Go.Proofs.Try.f51)) [((1 : Nat), AV.int IntKind.i64 t1), ((6 : Nat), AV.ints IntKind.i64 t6), ((7 : Nat), AV.vec (nat_lit 0) (nat_lit 1)), ((8 : Nat), AV.int IntKind.i64 t8), ((9 : Nat), AV.int IntKind.i64 t9)] [Blk.I (nat_lit 3) IntKind.i64 h0]) (fun t6 t8 t10 h0 => r (todoOf 30 (bodyOf Go.Proofs.Try.f51)) [((6 : Nat), AV.ints IntKind.i64 t6), ((7 : Nat), AV.vec (nat_lit 0) (nat_lit 1)), ((8 : Nat), AV.int IntKind.i64 t8), ((10 : Nat), AV.int IntKind.i64 t10)] [Blk.I (nat_lit 3) IntKind.i64 h0]) t6 t8 t10 h0 := by kernel_rfl
theorem rShl_k : ∀ k, (∀ (t1 : Int) (t6 : List Int) (t8 : Int) (t9 : Int) (h0 : List Int), evK rShl_E rShl_h 3000 k (todoOf 22 (bodyOf Go.Proofs.Try.f51)) [((1 : Nat), AV.int IntKind.i64 t1), ((6 : Nat), AV.ints IntKind.i64 t6), ((7 : Nat), AV.vec (nat_lit 0) (nat_lit 1)), ((8 : Nat), AV.int IntKind.i64 t8), ((9 : Nat), AV.int IntKind.i64 t9)] [Blk.I (nat_lit 3) IntKind.i64 h0] = rShl_L22 k t1 t6 t8 t9 h0) ∧ (∀ (t6 : List Int) (t8 : Int) (t10 : Int) (h0 : List Int), evK rShl_E rShl_h 3000 k (todoOf 30 (bodyOf Go.Proofs.Try.f51)) [((6 : Nat), AV.ints IntKind.i64 t6), ((7 : Nat), AV.vec (nat_lit 0) (nat_lit 1)), ((8 : Nat), AV.int IntKind.i64 t8), ((10 : Nat), AV.int IntKind.i64 t10)] [Blk.I (nat_lit 3) IntKind.i64 h0] = rShl_L30 k t6 t8 t10 h0)
  | 0 => by
    refine ⟨?_, ?_⟩ <;> intros <;> rfl
  | k + 1 => by
    have ih := rShl_k k
    refine ⟨?_, ?_⟩ <;> intros
    · exact ((rShl_s22 _ _ _ _ _ _).trans (by simp only [ih] <;> rfl))
    · exact ((rShl_s30 _ _ _ _ _).trans (by simp only [ih] <;> rfl))
theorem rShl_ev (k : Nat) (a : List Int) (b : Int) : evM rShl_E rShl_h 3000 k [.code (bodyOf Go.Proofs.Try.f51)] (T0 0 [.ints .u64 a, .int .i64 b]) [] = rShl_b0 (rShl_L22 k) (rShl_L30 k) a b := by
  refine (rShl_s0 _ a b).trans ?_
  simp only [rShl_k k] <;> rfl

/-! ### plumb/plumbref02.Shr -/
def rShr_h : Nat → Option Head := hintOf [(18, ⟨[(1, .same), (7, .same), (8, .same), (9, .same), (10, .same)], 0⟩), (28, ⟨[(1, .same), (7, .same), (8, .same), (9, .same), (11, .same), (12, .same)], 0⟩), (40, ⟨[(7, .same), (9, .same), (11, .same), (13, .vec 3), (14, .same)], 1⟩)]
def rShr_b0 (l18 : Int → List Int → Int → Bool → Int → Option (List Int × Bool × Int)) (l28 : Int → List Int → Int → Bool → Int → Int → Option (List Int × Bool × Int)) (l40 : List Int → Bool → Int → Int → List Int → Option (List Int × Bool × Int)) (a : List Int) (b : Int) : Option (List Int × Bool × Int) :=
  bif decide (b < (0 : Int)) then some ([], false, (22 : Int))
else
  Option.bind (digitsF a) fun t =>
    bif decide (divI IntKind.i64 b (16 : Int) ≥ (↑(List.length t) : Int)) then some ([], decide ((↑(List.length t) : Int) > (0 : Int)), (0 : Int))
    else l18 b t (divI IntKind.i64 b (16 : Int)) false (0 : Int)
def rShr_b18 (l18 : Int → List Int → Int → Bool → Int → Option (List Int × Bool × Int)) (l28 : Int → List Int → Int → Bool → Int → Int → Option (List Int × Bool × Int)) (l40 : List Int → Bool → Int → Int → List Int → Option (List Int × Bool × Int)) (t1 : Int) (t7 : List Int) (t8 : Int) (t9 : Bool) (t10 : Int) : Option (List Int × Bool × Int) :=
  bif decide (t10 < t8) then
  bif t9 then l18 t1 t7 t8 true (addI IntKind.i64 t10 (1 : Int)) else bif inRange t10 (List.length t7) then l18 t1 t7 t8 (!decide (rdI t7 t10 = (0 : Int))) (addI IntKind.i64 t10 (1 : Int)) else none
else l28 t1 t7 t8 t9 (1 : Int) (0 : Int)
def rShr_b28 (l18 : Int → List Int → Int → Bool → Int → Option (List Int × Bool × Int)) (l28 : Int → List Int → Int → Bool → Int → Int → Option (List Int × Bool × Int)) (l40 : List Int → Bool → Int → Int → List Int → Option (List Int × Bool × Int)) (t1 : Int) (t7 : List Int) (t8 : Int) (t9 : Bool) (t11 : Int) (t12 : Int) : Option (List Int × Bool × Int) :=
  bif decide (t12 < remI t1 (16 : Int)) then l28 t1 t7 t8 t9 (mulI IntKind.i64 t11 (2 : Int)) (addI IntKind.i64 t12 (1 : Int))
else bif t9 then l40 t7 true t11 t8 [] else bif inRange t8 (List.length t7) then bif !decide (t11 = (0 : Int)) then l40 t7 (!decide (remI (rdI t7 t8) t11 = (0 : Int))) t11 t8 [] else none else none
def rShr_b40 (l18 : Int → List Int → Int → Bool → Int → Option (List Int × Bool × Int)) (l28 : Int → List Int → Int → Bool → Int → Int → Option (List Int × Bool × Int)) (l40 : List Int → Bool → Int → Int → List Int → Option (List Int × Bool × Int)) (t7 : List Int) (t9 : Bool) (t11 : Int) (t14 : Int) (h0 : List Int) : Option (List Int × Bool × Int) :=
  bif decide (t14 < (↑(List.length t7) : Int)) then
  bif inRange t14 (List.length t7) then
    bif !decide (t11 = (0 : Int)) then
      bif decide (addI IntKind.i64 t14 (1 : Int) < (↑(List.length t7) : Int)) then
        bif inRange (addI IntKind.i64 t14 (1 : Int)) (List.length t7) then
          bif !decide (t11 = (0 : Int)) then
            bif !decide (t11 = (0 : Int)) then
              bif
                  decide
                    ((↑(List.length
                              (h0 ++
                                [addI IntKind.i64 (divI IntKind.i64 (rdI t7 t14) t11) (mulI IntKind.i64 (remI (rdI t7 (addI IntKind.i64 t14 (1 : Int))) t11) (divI IntKind.i64 (65536 : Int) t11))])) :
                          Int) *
                        (8 : Int) ≤
                      (140737488355328 : Int)) then
                l40 t7 t9 t11 (addI IntKind.i64 t14 (1 : Int))
                  (h0 ++ [addI IntKind.i64 (divI IntKind.i64 (rdI t7 t14) t11) (mulI IntKind.i64 (remI (rdI t7 (addI IntKind.i64 t14 (1 : Int))) t11) (divI IntKind.i64 (65536 : Int) t11))])
              else none
            else none
          else none
        else none
      else
        bif decide ((↑(List.length (h0 ++ [divI IntKind.i64 (rdI t7 t14) t11])) : Int) * (8 : Int) ≤ (140737488355328 : Int)) then
          l40 t7 t9 t11 (addI IntKind.i64 t14 (1 : Int)) (h0 ++ [divI IntKind.i64 (rdI t7 t14) t11])
        else none
    else none
  else none
else Option.bind (rtoldF h0) fun t => bif !decide (t.2 = (0 : Int)) then some ([], false, t.2) else some (t.1, t9, (0 : Int))
mutual
def rShr_L18 : Nat → Int → (List Int) → Int → Bool → Int → Option (List Int × Bool × Int)
  | 0, _, _, _, _, _ => none
  | k + 1, t1, t7, t8, t9, t10 => rShr_b18 (rShr_L18 k) (rShr_L28 k) (rShr_L40 k) t1 t7 t8 t9 t10
def rShr_L28 : Nat → Int → (List Int) → Int → Bool → Int → Int → Option (List Int × Bool × Int)
  | 0, _, _, _, _, _, _ => none
  | k + 1, t1, t7, t8, t9, t11, t12 => rShr_b28 (rShr_L18 k) (rShr_L28 k) (rShr_L40 k) t1 t7 t8 t9 t11 t12
def rShr_L40 : Nat → (List Int) → Bool → Int → Int → (List Int) → Option (List Int × Bool × Int)
  | 0, _, _, _, _, _ => none
  | k + 1, t7, t9, t11, t14, h0 => rShr_b40 (rShr_L18 k) (rShr_L28 k) (rShr_L40 k) t7 t9 t11 t14 h0
end
noncomputable def rShr_E : Env (dens [.sl (.int .u64), .bool, .int .i64]) := envOf S.tab [(120, mkF [.sl (.int .u64)] [.sl (.int .i64)] digitsF), (121, mkF [.sl (.int .i64)] [.sl (.int .u64), .int .i64] rtoldF)] Go.Proofs.Try.f53 [4, 5, 6] [.sl (.int .u64), .bool, .int .i64]
theorem rShr_s0 (r : Rec (dens [.sl (.int .u64), .bool, .int .i64])) (a : List Int) (b : Int) : evT rShr_E rShr_h r 3000 false [.code (bodyOf Go.Proofs.Try.f53)] (T0 0 [.ints .u64 a, .int .i64 b]) [] = rShr_b0 (fun t1 t7 t8 t9 t10 => r (todoOf 18 (bodyOf Go.Proofs.Try.f53)) [((1 : Nat), AV.int IntKind.i64 t1), ((7 : Nat), AV.ints IntKind.i64 t7), ((8 : Nat), AV.int IntKind.i64 t8), ((9 : Nat), AV.bool t9), ((10 : Nat), AV.int IntKind.i64 t10)] []) (fun t1 t7 t8 t9 t11 t12 => r (todoOf 28 (bodyOf Go.Proofs.Try.f53)) [((1 : Nat), AV.int IntKind.i64 t1), ((7 : Nat), AV.ints IntKind.i64 t7), ((8 : Nat), AV.int IntKind.i64 t8), ((9 : Nat), AV.bool t9), ((11 : Nat), AV.int IntKind.i64 t11),
  ((12 : Nat), AV.int IntKind.i64 t12)] []) (fun t7 t9 t11 t14 h0 => r (todoOf 40 (bodyOf Go.Proofs.Try.f53)) [((7 : Nat), AV.ints IntKind.i64 t7), ((9 : Nat), AV.bool t9), ((11 : Nat), AV.int IntKind.i64 t11), ((13 : Nat), AV.vec (nat_lit 0) (nat_lit 1)), ((14 : Nat), AV.int IntKind.i64 t14)] [Blk.I (nat_lit 3) IntKind.i64 h0]) a b := by kernel_rfl
theorem rShr_s18 (r : Rec (dens [.sl (.int .u64), .bool, .int .i64])) (t1 : Int) (t7 : List Int) (t8 : Int) (t9 : Bool) (t10 : Int) : evT rShr_E rShr_h r 3000 true (todoOf 18 (bodyOf Go.Proofs.Try.f53)) [((1 : Nat), AV.int IntKind.i64 t1), ((7 : Nat), AV.ints IntKind.i64 t7), ((8 : Nat), AV.int IntKind.i64 t8), ((9 : Nat), AV.bool t9), ((10 : Nat), AV.int IntKind.i64 t10)] [] = rShr_b18 (fun t1 t7 t8 t9 t10 => r (todoOf 18 (bodyOf Go.Proofs.Try.f53)) [((1 : Nat), AV.int IntKind.i64 t1), ((7 : Nat), AV.ints IntKind.i64 t7), ((8 : Nat), AV.int IntKind.i64 t8), ((9 : Nat), AV.bool t9), ((10 : Nat), AV.int IntKind.i64 t10)] []) (fun t1 t7 t8 t9 t11 t12 => r (todoOf 28 (bodyOf Go.Proofs.Try.f53)) [((1 : Nat), AV.int IntKind.i64 t1), ((7 : Nat), AV.ints IntKind.i64 t7), ((8 : Nat), AV.int IntKind.i64 t8), ((9 : Nat), AV.bool t9), ((11 : Nat), AV.int IntKind.i64 t11),
  ((12 : Nat), AV.int IntKind.i64 t12)] []) (fun t7 t9 t11 t14 h0 => r (todoOf 40 (bodyOf Go.Proofs.Try.f53)) [((7 : Nat), AV.ints IntKind.i64 t7), ((9 : Nat), AV.bool t9), ((11 : Nat), AV.int IntKind.i64 t11), ((13 : Nat), AV.vec (nat_lit 0) (nat_lit 1)), ((14 : Nat), AV.int IntKind.i64 t14)] [Blk.I (nat_lit 3) IntKind.i64 h0]) t1 t7 t8 t9 t10 := by kernel_rfl
theorem rShr_s28 (r : Rec (dens [.sl (.int .u64), .bool, .int .i64])) (t1 : Int) (t7 : List Int) (t8 : Int) (t9 : Bool) (t11 : Int) (t12 : Int) : evT rShr_E rShr_h r 3000 true (todoOf 28 (bodyOf Go.Proofs.Try.f53)) [((1 : Nat), AV.int IntKind.i64 t1), ((7 : Nat), AV.ints IntKind.i64 t7), ((8 : Nat), AV.int IntKind.i64 t8), ((9 : Nat), AV.bool t9), ((11 : Nat), AV.int IntKind.i64 t11),
  ((12 : Nat), AV.int IntKind.i64 t12)] [] = rShr_b28 (fun t1 t7 t8 t9 t10 => r (todoOf 18 (bodyOf Go.Proofs.Try.f53)) [((1 : Nat), AV.int IntKind.i64 t1), ((7 : Nat), AV.ints IntKind.i64 t7), ((8 : Nat), AV.int IntKind.i64 t8), ((9 : Nat), AV.bool t9), ((10 : Nat), AV.int IntKind.i64 t10)] []) (fun t1 t7 t8 t9 t11 t12 => r (todoOf 28 (bodyOf Go.Proofs.Try.f53)) [((1 : Nat), AV.int IntKind.i64 t1), ((7 : Nat), AV.ints IntKind.i64 t7), ((8 : Nat), AV.int IntKind.i64 t8), ((9 : Nat), AV.bool t9), ((11 : Nat), AV.int IntKind.i64 t11),
  ((12 : Nat), AV.int IntKind.i64 t12)] []) (fun t7 t9 t11 t14 h0 => r (todoOf 40 (bodyOf Go.Proofs.Try.f53)) [((7 : Nat), AV.ints IntKind.i64 t7), ((9 : Nat), AV.bool t9), ((11 : Nat), AV.int IntKind.i64 t11), ((13 : Nat), AV.vec (nat_lit 0) (nat_lit 1)), ((14 : Nat), AV.int IntKind.i64 t14)] [Blk.I (nat_lit 3) IntKind.i64 h0]) t1 t7 t8 t9 t11 t12 := by kernel_rfl
theorem rShr_s40 (r : Rec (dens [.sl (.int .u64), .bool, .int .i64])) (t7 : List Int) (t9 : Bool) (t11 : Int) (t14 : Int) (h0 : List Int) : evT rShr_E rShr_h r 3000 true (todoOf 40 (bodyOf Go.Proofs.Try.f53)) [((7 : Nat), AV.ints IntKind.i64 t7), ((9 : Nat), AV.bool t9), ((11 : Nat), AV.int IntKind.i64 t11), ((13 : Nat), AV.vec (nat_lit 0) (nat_lit 1)), ((14 : Nat), AV.int IntKind.i64 t14)] [Blk.I (nat_lit 3) IntKind.i64 h0] = rShr_b40 (fun t1 t7 t8 t9 t10 => r (todoOf 18 (bodyOf Go.Proofs.Try.f53)) [((1 : Nat), AV.int IntKind.i64 t1), ((7 : Nat), AV.ints IntKind.i64 t7), ((8 : Nat), AV.int IntKind.i64 t8), ((9 : Nat), AV.bool t9), ((10 : Nat), AV.int IntKind.i64 t10)] []) (fun t1 t7 t8 t9 t11 t12 => r (todoOf 28 (bodyOf Go.Proofs.Try.f53)) [((1 : Nat), AV.int IntKind.i64 t1), ((7 : Nat), AV.ints IntKind.i64 t7), ((8 : Nat), AV.int IntKind.i64 t8), ((9 : Nat), AV.bool t9), ((11 : Nat), AV.int IntKind.i64 t11),
  ((12 : Nat), AV.int IntKind.i64 t12)] []) (fun t7 t9 t11 t14 h0 => r (todoOf 40 (bodyOf Go.Proofs.Try.f53)) [((7 : Nat), AV.ints IntKind.i64 t7), ((9 : Nat), AV.bool t9), ((11 : Nat), AV.int IntKind.i64 t11), ((13 : Nat), AV.vec (nat_lit 0) (nat_lit 1)), ((14 : Nat), AV.int IntKind.i64 t14)] [Blk.I (nat_lit 3) IntKind.i64 h0]) t7 t9 t11 t14 h0 := by kernel_rfl
theorem rShr_k : ∀ k, (∀ (t1 : Int) (t7 : List Int) (t8 : Int) (t9 : Bool) (t10 : Int), evK rShr_E rShr_h 3000 k (todoOf 18 (bodyOf Go.Proofs.Try.f53)) [((1 : Nat), AV.int IntKind.i64 t1), ((7 : Nat), AV.ints IntKind.i64 t7), ((8 : Nat), AV.int IntKind.i64 t8), ((9 : Nat), AV.bool t9), ((10 : Nat), AV.int IntKind.i64 t10)] [] = rShr_L18 k t1 t7 t8 t9 t10) ∧ (∀ (t1 : Int) (t7 : List Int) (t8 : Int) (t9 : Bool) (t11 : Int) (t12 : Int), evK rShr_E rShr_h 3000 k (todoOf 28 (bodyOf Go.Proofs.Try.f53)) [((1 : Nat), AV.int IntKind.i64 t1), ((7 : Nat), AV.ints IntKind.i64 t7), ((8 : Nat), AV.int IntKind.i64 t8), ((9 : Nat), AV.bool t9), ((11 : Nat), AV.int IntKind.i64 t11),
  ((12 : Nat), AV.int IntKind.i64 t12)] [] = rShr_L28 k t1 t7 t8 t9 t11 t12) ∧ (∀ (t7 : List Int) (t9 : Bool) (t11 : Int) (t14 : Int) (h0 : List Int), evK rShr_E rShr_h 3000 k (todoOf 40 (bodyOf Go.Proofs.Try.f53)) [((7 : Nat), AV.ints IntKind.i64 t7), ((9 : Nat), AV.bool t9), ((11 : Nat), AV.int IntKind.i64 t11), ((13 : Nat), AV.vec (nat_lit 0) (nat_lit 1)), ((14 : Nat), AV.int IntKind.i64 t14)] [Blk.I (nat_lit 3) IntKind.i64 h0] = rShr_L40 k t7 t9 t11 t14 h0)
  | 0 => by
    refine ⟨?_, ?_, ?_⟩ <;> intros <;> rfl
  | k + 1 => by
    have ih := rShr_k k
    refine ⟨?_, ?_, ?_⟩ <;> intros
    · exact ((rShr_s18 _ _ _ _ _ _).trans (by simp only [ih] <;> rfl))
    · exact ((rShr_s28 _ _ _ _ _ _ _).trans (by simp only [ih] <;> rfl))
    · exact ((rShr_s40 _ _ _ _ _ _).trans (by simp only [ih] <;> rfl))
theorem rShr_ev (k : Nat) (a : List Int) (b : Int) : evM rShr_E rShr_h 3000 k [.code (bodyOf Go.Proofs.Try.f53)] (T0 0 [.ints .u64 a, .int .i64 b]) [] = rShr_b0 (rShr_L18 k) (rShr_L28 k) (rShr_L40 k) a b := by
  refine (rShr_s0 _ a b).trans ?_
  simp only [rShr_k k] <;> rfl

/-! ### plumb/plumbref02.Bits -/
def rBits_h : Nat → Option Head := hintOf [(12, ⟨[(4, .same), (5, .same)], 0⟩)]
def rBits_b0 (l12 : Int → Int → Option Int) (a : List Int) : Option (Int) :=
  Option.bind (digitsF a) fun t =>
  bif decide ((↑(List.length t) : Int) = (0 : Int)) then some (0 : Int)
  else
    bif inRange (subI IntKind.i64 (↑(List.length t) : Int) (1 : Int)) (List.length t) then
      l12 (mulI IntKind.i64 (16 : Int) (subI IntKind.i64 (↑(List.length t) : Int) (1 : Int))) (rdI t (subI IntKind.i64 (↑(List.length t) : Int) (1 : Int)))
    else none
def rBits_b12 (l12 : Int → Int → Option Int) (t4 : Int) (t5 : Int) : Option (Int) :=
  bif decide (t5 > (0 : Int)) then l12 (addI IntKind.i64 t4 (1 : Int)) (divI IntKind.i64 t5 (2 : Int)) else some t4
mutual
def rBits_L12 : Nat → Int → Int → Option (Int)
  | 0, _, _ => none
  | k + 1, t4, t5 => rBits_b12 (rBits_L12 k) t4 t5
end
noncomputable def rBits_E : Env (dens [.int .i64]) := envOf S.tab [(120, mkF [.sl (.int .u64)] [.sl (.int .i64)] digitsF)] Go.Proofs.Try.f55 [2] [.int .i64]
theorem rBits_s0 (r : Rec (dens [.int .i64])) (a : List Int) : evT rBits_E rBits_h r 3000 false [.code (bodyOf Go.Proofs.Try.f55)] (T0 0 [.ints .u64 a]) [] = rBits_b0 (fun t4 t5 => r (todoOf 12 (bodyOf Go.Proofs.Try.f55)) [((4 : Nat), AV.int IntKind.i64 t4), ((5 : Nat), AV.int IntKind.i64 t5)] []) a := by kernel_rfl
theorem rBits_s12 (r : Rec (dens [.int .i64])) (t4 : Int) (t5 : Int) : evT rBits_E rBits_h r 3000 true (todoOf 12 (bodyOf Go.Proofs.Try.f55)) [((4 : Nat), AV.int IntKind.i64 t4), ((5 : Nat), AV.int IntKind.i64 t5)] [] = rBits_b12 (fun t4 t5 => r (todoOf 12 (bodyOf Go.Proofs.Try.f55)) [((4 : Nat), AV.int IntKind.i64 t4), ((5 : Nat), AV.int IntKind.i64 t5)] []) t4 t5 := by kernel_rfl
theorem rBits_k : ∀ k, (∀ (t4 : Int) (t5 : Int), evK rBits_E rBits_h 3000 k (todoOf 12 (bodyOf Go.Proofs.Try.f55)) [((4 : Nat), AV.int IntKind.i64 t4), ((5 : Nat), AV.int IntKind.i64 t5)] [] = rBits_L12 k t4 t5)
  | 0 => by
    refine ?_ <;> intros <;> rfl
  | k + 1 => by
    have ih := rBits_k k
    refine ?_ <;> intros
    · exact ((rBits_s12 _ _ _).trans (by simp only [ih] <;> rfl))
theorem rBits_ev (k : Nat) (a : List Int) : evM rBits_E rBits_h 3000 k [.code (bodyOf Go.Proofs.Try.f55)] (T0 0 [.ints .u64 a]) [] = rBits_b0 (rBits_L12 k) a := by
  refine (rBits_s0 _ a).trans ?_
  simp only [rBits_k k] <;> rfl

/-! ### plumb/plumbref02.Bit -/
def rBit_h : Nat → Option Head := hintOf [(12, ⟨[(1, .same), (6, .same), (7, .same)], 0⟩)]
def rBit_b0 (l12 : Int → Int → Int → Option Int) (a : List Int) (b : Int) : Option (Int) :=
  Option.bind (digitsF a) fun t =>
  bif decide (b < (0 : Int)) then some (0 : Int)
  else
    bif decide (divI IntKind.i64 b (16 : Int) ≥ (↑(List.length t) : Int)) then some (0 : Int)
    else bif inRange (divI IntKind.i64 b (16 : Int)) (List.length t) then l12 b (rdI t (divI IntKind.i64 b (16 : Int))) (0 : Int) else none
def rBit_b12 (l12 : Int → Int → Int → Option Int) (t1 : Int) (t6 : Int) (t7 : Int) : Option (Int) :=
  bif decide (t7 < remI t1 (16 : Int)) then l12 t1 (divI IntKind.i64 t6 (2 : Int)) (addI IntKind.i64 t7 (1 : Int)) else some (remI t6 (2 : Int))
mutual
def rBit_L12 : Nat → Int → Int → Int → Option (Int)
  | 0, _, _, _ => none
  | k + 1, t1, t6, t7 => rBit_b12 (rBit_L12 k) t1 t6 t7
end
noncomputable def rBit_E : Env (dens [.int .i64]) := envOf S.tab [(120, mkF [.sl (.int .u64)] [.sl (.int .i64)] digitsF)] Go.Proofs.Try.f56 [4] [.int .i64]
theorem rBit_s0 (r : Rec (dens [.int .i64])) (a : List Int) (b : Int) : evT rBit_E rBit_h r 3000 false [.code (bodyOf Go.Proofs.Try.f56)] (T0 0 [.ints .u64 a, .int .i64 b]) [] = rBit_b0 (fun t1 t6 t7 => r (todoOf 12 (bodyOf Go.Proofs.Try.f56)) [((1 : Nat), AV.int IntKind.i64 t1), ((6 : Nat), AV.int IntKind.i64 t6), ((7 : Nat), AV.int IntKind.i64 t7)] []) a b := by kernel_rfl
theorem rBit_s12 (r : Rec (dens [.int .i64])) (t1 : Int) (t6 : Int) (t7 : Int) : evT rBit_E rBit_h r 3000 true (todoOf 12 (bodyOf Go.Proofs.Try.f56)) [((1 : Nat), AV.int IntKind.i64 t1), ((6 : Nat), AV.int IntKind.i64 t6), ((7 : Nat), AV.int IntKind.i64 t7)] [] = rBit_b12 (fun t1 t6 t7 => r (todoOf 12 (bodyOf Go.Proofs.Try.f56)) [((1 : Nat), AV.int IntKind.i64 t1), ((6 : Nat), AV.int IntKind.i64 t6), ((7 : Nat), AV.int IntKind.i64 t7)] []) t1 t6 t7 := by kernel_rfl
theorem rBit_k : ∀ k, (∀ (t1 : Int) (t6 : Int) (t7 : Int), evK rBit_E rBit_h 3000 k (todoOf 12 (bodyOf Go.Proofs.Try.f56)) [((1 : Nat), AV.int IntKind.i64 t1), ((6 : Nat), AV.int IntKind.i64 t6), ((7 : Nat), AV.int IntKind.i64 t7)] [] = rBit_L12 k t1 t6 t7)
  | 0 => by
    refine ?_ <;> intros <;> rfl
  | k + 1 => by
    have ih := rBit_k k
    refine ?_ <;> intros
    · exact ((rBit_s12 _ _ _ _).trans (by simp only [ih] <;> rfl))
theorem rBit_ev (k : Nat) (a : List Int) (b : Int) : evM rBit_E rBit_h 3000 k [.code (bodyOf Go.Proofs.Try.f56)] (T0 0 [.ints .u64 a, .int .i64 b]) [] = rBit_b0 (rBit_L12 k) a b := by
  refine (rBit_s0 _ a b).trans ?_
  simp only [rBit_k k] <;> rfl

/-! ### plumb/plumbref02.Zeros -/
def rZeros_h : Nat → Option Head := hintOf [(6, ⟨[(3, .same), (4, .same)], 0⟩), (16, ⟨[(5, .same), (6, .same)], 0⟩)]
def rZeros_b0 (l6 : List Int → Int → Option Int) (l16 : Int → Int → Option Int) (a : List Int) : Option (Int) :=
  Option.bind (digitsF a) fun t => l6 t (0 : Int)
def rZeros_b6 (l6 : List Int → Int → Option Int) (l16 : Int → Int → Option Int) (t3 : List Int) (t4 : Int) : Option (Int) :=
  bif decide (t4 < (↑(List.length t3) : Int)) then
  bif inRange t4 (List.length t3) then
    bif decide (rdI t3 t4 = (0 : Int)) then l6 t3 (addI IntKind.i64 t4 (1 : Int)) else bif inRange t4 (List.length t3) then l16 (mulI IntKind.i64 (16 : Int) t4) (rdI t3 t4) else none
  else none
else some (0 : Int)
def rZeros_b16 (l6 : List Int → Int → Option Int) (l16 : Int → Int → Option Int) (t5 : Int) (t6 : Int) : Option (Int) :=
  bif decide (remI t6 (2 : Int) = (0 : Int)) then l16 (addI IntKind.i64 t5 (1 : Int)) (divI IntKind.i64 t6 (2 : Int)) else some t5
mutual
def rZeros_L6 : Nat → (List Int) → Int → Option (Int)
  | 0, _, _ => none
  | k + 1, t3, t4 => rZeros_b6 (rZeros_L6 k) (rZeros_L16 k) t3 t4
def rZeros_L16 : Nat → Int → Int → Option (Int)
  | 0, _, _ => none
  | k + 1, t5, t6 => rZeros_b16 (rZeros_L6 k) (rZeros_L16 k) t5 t6
end
noncomputable def rZeros_E : Env (dens [.int .i64]) := envOf S.tab [(120, mkF [.sl (.int .u64)] [.sl (.int .i64)] digitsF)] Go.Proofs.Try.f57 [2] [.int .i64]
theorem rZeros_s0 (r : Rec (dens [.int .i64])) (a : List Int) : evT rZeros_E rZeros_h r 3000 false [.code (bodyOf Go.Proofs.Try.f57)] (T0 0 [.ints .u64 a]) [] = rZeros_b0 (fun t3 t4 => r (todoOf 6 (bodyOf Go.Proofs.Try.f57)) [((3 : Nat), AV.ints IntKind.i64 t3), ((4 : Nat), AV.int IntKind.i64 t4)] []) (fun t5 t6 => r (todoOf 16 (bodyOf Go.Proofs.Try.f57)) [((5 : Nat), AV.int IntKind.i64 t5), ((6 : Nat), AV.int IntKind.i64 t6)] []) a := by kernel_rfl
theorem rZeros_s6 (r : Rec (dens [.int .i64])) (t3 : List Int) (t4 : Int) : evT rZeros_E rZeros_h r 3000 true (todoOf 6 (bodyOf Go.Proofs.Try.f57)) [((3 : Nat), AV.ints IntKind.i64 t3), ((4 : Nat), AV.int IntKind.i64 t4)] [] = rZeros_b6 (fun t3 t4 => r (todoOf 6 (bodyOf Go.Proofs.Try.f57)) [((3 : Nat), AV.ints IntKind.i64 t3), ((4 : Nat), AV.int IntKind.i64 t4)] []) (fun t5 t6 => r (todoOf 16 (bodyOf Go.Proofs.Try.f57)) [((5 : Nat), AV.int IntKind.i64 t5), ((6 : Nat), AV.int IntKind.i64 t6)] []) t3 t4 := by kernel_rfl
theorem rZeros_s16 (r : Rec (dens [.int .i64])) (t5 : Int) (t6 : Int) : evT rZeros_E rZeros_h r 3000 true (todoOf 16 (bodyOf Go.Proofs.Try.f57)) [((5 : Nat), AV.int IntKind.i64 t5), ((6 : Nat), AV.int IntKind.i64 t6)] [] = rZeros_b16 (fun t3 t4 => r (todoOf 6 (bodyOf Go.Proofs.Try.f57)) [((3 : Nat), AV.ints IntKind.i64 t3), ((4 : Nat), AV.int IntKind.i64 t4)] []) (fun t5 t6 => r (todoOf 16 (bodyOf Go.Proofs.Try.f57)) [((5 : Nat), AV.int IntKind.i64 t5), ((6 : Nat), AV.int IntKind.i64 t6)] []) t5 t6 := by kernel_rfl
theorem rZeros_k : ∀ k, (∀ (t3 : List Int) (t4 : Int), evK rZeros_E rZeros_h 3000 k (todoOf 6 (bodyOf Go.Proofs.Try.f57)) [((3 : Nat), AV.ints IntKind.i64 t3), ((4 : Nat), AV.int IntKind.i64 t4)] [] = rZeros_L6 k t3 t4) ∧ (∀ (t5 : Int) (t6 : Int), evK rZeros_E rZeros_h 3000 k (todoOf 16 (bodyOf Go.Proofs.Try.f57)) [((5 : Nat), AV.int IntKind.i64 t5), ((6 : Nat), AV.int IntKind.i64 t6)] [] = rZeros_L16 k t5 t6)
  | 0 => by
    refine ⟨?_, ?_⟩ <;> intros <;> rfl
  | k + 1 => by
    have ih := rZeros_k k
    refine ⟨?_, ?_⟩ <;> intros
    · exact ((rZeros_s6 _ _ _).trans (by simp only [ih] <;> rfl))
    · exact ((rZeros_s16 _ _ _).trans (by simp only [ih] <;> rfl))
theorem rZeros_ev (k : Nat) (a : List Int) : evM rZeros_E rZeros_h 3000 k [.code (bodyOf Go.Proofs.Try.f57)] (T0 0 [.ints .u64 a]) [] = rZeros_b0 (rZeros_L6 k) (rZeros_L16 k) a := by
  refine (rZeros_s0 _ a).trans ?_
  simp only [rZeros_k k] <;> rfl

/-! ### plumb/plumblaw02.NatAdds -/
def NatAdds_h : Nat → Option Head := hintOf []
def NatAdds_b0  (a : List Int) (b : List Int) (c : List Int) : Option (Bool) :=
  Option.bind (cutF a) fun t =>
  Option.bind (cutF b) fun t_1 =>
    Option.bind (cutF c) fun t_2 =>
      Option.bind (nNormF t) fun t_3 =>
        Option.bind (rNormF t) fun t_4 =>
          Option.bind (sameF (t_3, t_4)) fun t_5 =>
            bif !t_5 then some false
            else
              Option.bind (nCmpF (t, t_1)) fun t_6 =>
                Option.bind (rCmpF (t, t_1)) fun t_7 =>
                  bif !decide (t_6 = t_7) then some false
                  else
                    Option.bind (nWordF t) fun t_8 =>
                      Option.bind (rWordF t) fun t_9 =>
                        bif !decide (t_8.1 = t_9.1) then some false
                        else
                          bif !decide (t_8.2 = t_9.2) then some false
                          else
                            Option.bind (nFromF t_8.1) fun t_10 =>
                              Option.bind (rFromF t_8.1) fun t_11 =>
                                Option.bind (sameF (t_10, t_11)) fun t_12 =>
                                  bif !t_12 then some false
                                  else
                                    Option.bind (nAddF (t, t_1)) fun t_13 =>
                                      Option.bind (rAddF (t, t_1)) fun t_14 =>
                                        Option.bind (nSubF (t, t_1)) fun t_15 =>
                                          Option.bind (rSubF (t, t_1)) fun t_16 =>
                                            Option.bind (nSumF [AV.ints IntKind.u64 t, AV.ints IntKind.u64 t_1, AV.ints IntKind.u64 t_2]) fun t_17 =>
                                              Option.bind (rSumF [AV.ints IntKind.u64 t, AV.ints IntKind.u64 t_1, AV.ints IntKind.u64 t_2]) fun t_18 =>
                                                Option.bind (nMulF (t, t_1)) fun t_19 =>
                                                  Option.bind (rMulF (t, t_1)) fun t =>
                                                    Option.bind (toldF (t_13.1, t_13.2, t_14.1, t_14.2)) fun t_20 =>
                                                      bif t_20 then
                                                        Option.bind (toldF (t_15.1, t_15.2, t_16.1, t_16.2)) fun t_21 =>
                                                          bif t_21 then
                                                            Option.bind (toldF (t_17.1, t_17.2, t_18.1, t_18.2)) fun t_22 =>
                                                              bif t_22 then Option.bind (toldF (t_19.1, t_19.2, t.1, t.2)) fun t => some t else some false
                                                          else some false
                                                      else some false
noncomputable def NatAdds_E : Env (dens [.bool]) := envOf S.tab [(27, mkF [.sl (.int .u64)] [.sl (.int .u64)] cutF), (32, mkF [.sl (.int .u64)] [.sl (.int .u64)] nNormF), (58, mkF [.sl (.int .u64)] [.sl (.int .u64)] rNormF), (31, mkF [.sl (.int .u64), .sl (.int .u64)] [.bool] sameF), (33, mkF [.sl (.int .u64), .sl (.int .u64)] [.int .i64] nCmpF), (59, mkF [.sl (.int .u64), .sl (.int .u64)] [.int .i64] rCmpF), (60, mkF [.sl (.int .u64)] [.int .u64, .bool] nWordF), (61, mkF [.sl (.int .u64)] [.int .u64, .bool] rWordF), (62, mkF [.int .u64] [.sl (.int .u64)] nFromF), (63, mkF [.int .u64] [.sl (.int .u64)] rFromF), (40, mkF [.sl (.int .u64), .sl (.int .u64)] [.sl (.int .u64), .int .i64] nAddF), (64, mkF [.sl (.int .u64), .sl (.int .u64)] [.sl (.int .u64), .int .i64] rAddF), (30, mkF [.sl (.int .u64), .sl (.int .u64)] [.sl (.int .u64), .int .i64] nSubF), (65, mkF [.sl (.int .u64), .sl (.int .u64)] [.sl (.int .u64), .int .i64] rSubF), (34, mkF [.sl (.sl (.int .u64))] [.sl (.int .u64), .int .i64] nSumF), (66, mkF [.sl (.sl (.int .u64))] [.sl (.int .u64), .int .i64] rSumF), (38, mkF [.sl (.int .u64), .sl (.int .u64)] [.sl (.int .u64), .int .i64] nMulF), (67, mkF [.sl (.int .u64), .sl (.int .u64)] [.sl (.int .u64), .int .i64] rMulF), (54, mkF [.sl (.int .u64), .int .i64, .sl (.int .u64), .int .i64] [.bool] toldF)] Go.Proofs.Try.f9 [6] [.bool]
theorem NatAdds_s0 (r : Rec (dens [.bool])) (a : List Int) (b : List Int) (c : List Int) : evT NatAdds_E NatAdds_h r 3000 false [.code (bodyOf Go.Proofs.Try.f9)] (T0 0 [.ints .u64 a, .ints .u64 b, .ints .u64 c]) [] = NatAdds_b0  a b c := by kernel_rfl
theorem NatAdds_ev (k : Nat) (a : List Int) (b : List Int) (c : List Int) : evM NatAdds_E NatAdds_h 3000 k [.code (bodyOf Go.Proofs.Try.f9)] (T0 0 [.ints .u64 a, .ints .u64 b, .ints .u64 c]) [] = NatAdds_b0  a b c := by
  exact NatAdds_s0 _ a b c

/-! ### plumb/plumblaw02.NatShifts -/
def NatShifts_h : Nat → Option Head := hintOf []
def NatShifts_b0  (a : List Int) (b : Int) : Option (Bool) :=
  Option.bind (cutF a) fun t =>
  Option.bind (nShlF (t, b)) fun t_1 =>
    Option.bind (rShlF (t, b)) fun t_2 =>
      Option.bind (nShrF (t, b)) fun t_3 =>
        Option.bind (rShrF (t, b)) fun t_4 =>
          Option.bind (toldF (t_1.1, t_1.2, t_2.1, t_2.2)) fun t_5 =>
            bif !t_5 then some false
            else
              Option.bind (toldF (t_3.1, (Prod.snd t_3).2, t_4.1, (Prod.snd t_4).2)) fun t_6 =>
                bif !t_6 then some false
                else
                  bif !decide ((Prod.snd t_3).1 = (Prod.snd t_4).1) then some false
                  else
                    Option.bind (nBitsF t) fun t_7 =>
                      Option.bind (rBitsF t) fun t_8 =>
                        bif decide (t_7 = t_8) then
                          Option.bind (nBitF (t, b)) fun t_9 =>
                            Option.bind (rBitF (t, b)) fun t_10 =>
                              bif decide (t_9 = t_10) then Option.bind (nZerosF t) fun t_11 => Option.bind (rZerosF t) fun t => some (decide (t_11 = t)) else some false
                        else some false
noncomputable def NatShifts_E : Env (dens [.bool]) := envOf S.tab [(27, mkF [.sl (.int .u64)] [.sl (.int .u64)] cutF), (42, mkF [.sl (.int .u64), .int .i64] [.sl (.int .u64), .int .i64] nShlF), (51, mkF [.sl (.int .u64), .int .i64] [.sl (.int .u64), .int .i64] rShlF), (52, mkF [.sl (.int .u64), .int .i64] [.sl (.int .u64), .bool, .int .i64] nShrF), (53, mkF [.sl (.int .u64), .int .i64] [.sl (.int .u64), .bool, .int .i64] rShrF), (54, mkF [.sl (.int .u64), .int .i64, .sl (.int .u64), .int .i64] [.bool] toldF), (43, mkF [.sl (.int .u64)] [.int .i64] nBitsF), (55, mkF [.sl (.int .u64)] [.int .i64] rBitsF), (41, mkF [.sl (.int .u64), .int .i64] [.int .i64] nBitF), (56, mkF [.sl (.int .u64), .int .i64] [.int .i64] rBitF), (44, mkF [.sl (.int .u64)] [.int .i64] nZerosF), (57, mkF [.sl (.int .u64)] [.int .i64] rZerosF)] Go.Proofs.Try.f7 [4] [.bool]
theorem NatShifts_s0 (r : Rec (dens [.bool])) (a : List Int) (b : Int) : evT NatShifts_E NatShifts_h r 3000 false [.code (bodyOf Go.Proofs.Try.f7)] (T0 0 [.ints .u64 a, .int .i64 b]) [] = NatShifts_b0  a b := by kernel_rfl
theorem NatShifts_ev (k : Nat) (a : List Int) (b : Int) : evM NatShifts_E NatShifts_h 3000 k [.code (bodyOf Go.Proofs.Try.f7)] (T0 0 [.ints .u64 a, .int .i64 b]) [] = NatShifts_b0  a b := by
  exact NatShifts_s0 _ a b

end
end Go.RX.S
