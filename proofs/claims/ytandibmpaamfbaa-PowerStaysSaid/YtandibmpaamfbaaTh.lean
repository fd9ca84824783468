/- What functions compute, printed. -/
import Derived.Test.YtandibmpaamfbaaTg
import Derived.Test.YtandibmpaamfbaaSg
set_option linter.unusedVariables false
set_option linter.unusedSimpArgs false
namespace Go.RX.S
open Go Go.RX Go.Proofs
noncomputable section
/-! ### plumb/radix.based -/
def based_h : Nat → Option Head := hintOf []
def based_b0  (a : Int) : Option (Bool) :=
  bif decide (a ≥ 2) then some (decide (a ≤ 36)) else some false
noncomputable def based_E : Env (dens [.bool]) := envOf S.tab [] Try.f159 [2] [.bool]
theorem based_s0 (r : Rec (dens [.bool])) (a : Int) : evT based_E based_h r 3000 false [.code (bodyOf Try.f159)] (T0 0 [.int .i64 a]) [] = based_b0  a := by kernel_rfl
theorem based_ev (k : Nat) (a : Int) : evM based_E based_h 3000 k [.code (bodyOf Try.f159)] (T0 0 [.int .i64 a]) [] = based_b0  a := by
  exact based_s0 _ a

/-! ### plumb/radix.chunk -/
def chunk_h : Nat → Option Head := hintOf [(4, ⟨[(0, .same), (4, .same), (5, .same)], 0⟩)]
def chunk_b0 (l4 : Int → Int → Int → Option (Int × Int)) (a : Int) : Option (Int × Int) :=
  l4 a (cvI .u64 a) 1
def chunk_b4 (l4 : Int → Int → Int → Option (Int × Int)) (t0 : Int) (t4 : Int) (t5 : Int) : Option (Int × Int) :=
  bif !decide (cvI .u64 t0 = 0) then
  bif decide (t4 ≤ divI .u64 18446744073709551615 (cvI .u64 t0)) then l4 t0 (mulI .u64 t4 (cvI .u64 t0)) (addI .i64 t5 1) else some (t4, t5)
else none
mutual
def chunk_L4 : Nat → Int → Int → Int → Option (Int × Int)
  | 0, _, _, _ => none
  | k + 1, t0, t4, t5 => chunk_b4 (chunk_L4 k) t0 t4 t5
end
noncomputable def chunk_E : Env (dens [.int .u64, .int .i64]) := envOf S.tab [] Try.f168 [2, 3] [.int .u64, .int .i64]
theorem chunk_s0 (r : Rec (dens [.int .u64, .int .i64])) (a : Int) : evT chunk_E chunk_h r 3000 false [.code (bodyOf Try.f168)] (T0 0 [.int .i64 a]) [] = chunk_b0 (fun t0 t4 t5 => r (todoOf 4 (bodyOf Try.f168)) [(0, AV.int .i64 t0), (4, AV.int .u64 t4), (5, AV.int .i64 t5)] []) a := by kernel_rfl
theorem chunk_s4 (r : Rec (dens [.int .u64, .int .i64])) (t0 : Int) (t4 : Int) (t5 : Int) : evT chunk_E chunk_h r 3000 true (todoOf 4 (bodyOf Try.f168)) [(0, AV.int .i64 t0), (4, AV.int .u64 t4), (5, AV.int .i64 t5)] [] = chunk_b4 (fun t0 t4 t5 => r (todoOf 4 (bodyOf Try.f168)) [(0, AV.int .i64 t0), (4, AV.int .u64 t4), (5, AV.int .i64 t5)] []) t0 t4 t5 := by kernel_rfl
theorem chunk_k : ∀ k, (∀ (t0 : Int) (t4 : Int) (t5 : Int), evK chunk_E chunk_h 3000 k (todoOf 4 (bodyOf Try.f168)) [(0, AV.int .i64 t0), (4, AV.int .u64 t4), (5, AV.int .i64 t5)] [] = chunk_L4 k t0 t4 t5)
  | 0 => by
    refine ?_ <;> intros <;> rfl
  | k + 1 => by
    have ih := chunk_k k
    refine ?_ <;> intros
    · exact ((chunk_s4 _ _ _ _).trans (by simp only [ih] <;> rfl))
theorem chunk_ev (k : Nat) (a : Int) : evM chunk_E chunk_h 3000 k [.code (bodyOf Try.f168)] (T0 0 [.int .i64 a]) [] = chunk_b0 (chunk_L4 k) a := by
  refine (chunk_s0 _ a).trans ?_
  simp only [chunk_k k] <;> rfl

/-! ### plumb/radix.written -/
def written_h : Nat → Option Head := hintOf [(8, ⟨[(0, .same), (1, .same), (5, .same), (6, .same), (7, .vec 5)], 1⟩), (14, ⟨[(1, .same), (5, .same), (6, .same), (7, .vec 5), (8, .same), (9, .same), (28, .same), (29, .same)], 1⟩), (24, ⟨[(7, .vec 5)], 1⟩)]
def written_b0 (l8 : List Int → Int → Int → Int → List Int → Option (List Int)) (l14 : Int → Int → Int → List Int → Int → Int → Int → List Int → Option (List Int)) (l24 : List Int → Option (List Int)) (a : List Int) (b : Int) : Option (List Int) :=
  Option.bind (chunkF b) fun t => Option.bind (nNormF a) fun t_1 => l8 t_1 b t.1 t.2 []
def written_b8 (l8 : List Int → Int → Int → Int → List Int → Option (List Int)) (l14 : Int → Int → Int → List Int → Int → Int → Int → List Int → Option (List Int)) (l24 : List Int → Option (List Int)) (t0 : List Int) (t1 : Int) (t5 : Int) (t6 : Int) (h0 : List Int) : Option (List Int) :=
  bif decide ((↑(List.length t0) : Int) > 0) then Option.bind (qSmallF (t0, t5)) fun t => l14 t1 t5 t6 t.1 (Prod.snd t).1 t6 0 h0 else l24 h0
def written_b14 (l8 : List Int → Int → Int → Int → List Int → Option (List Int)) (l14 : Int → Int → Int → List Int → Int → Int → Int → List Int → Option (List Int)) (l24 : List Int → Option (List Int)) (t1 : Int) (t5 : Int) (t6 : Int) (t8 : List Int) (t9 : Int) (t28 : Int) (t29 : Int) (h0 : List Int) : Option (List Int) :=
  bif decide (t29 < t28) then
  bif !decide (cvI .u64 t1 = 0) then
    bif inRange (remI t9 (cvI .u64 t1)) (nat_lit 36) then
      bif
          decide
            ((↑(List.length
                      (h0 ++
                        [byteAt
                            (strOfI
                              [48, 49, 50, 51, 52, 53, 54, 55, 56, 57, 97, 98, 99, 100,
                                101, 102, 103, 104, 105, 106, 107, 108, 109, 110, 111, 112, 113,
                                114, 115, 116, 117, 118, 119, 120, 121, 122])
                            (remI t9 (cvI .u64 t1))])) :
                  Int) *
                1 ≤
              140737488355328) then
        bif !decide (cvI .u64 t1 = 0) then
          l14 t1 t5 t6 t8 (divI .u64 t9 (cvI .u64 t1)) t28 (addI .i64 t29 1)
            (h0 ++
              [byteAt
                  (strOfI
                    [48, 49, 50, 51, 52, 53, 54, 55, 56, 57, 97, 98, 99, 100,
                      101, 102, 103, 104, 105, 106, 107, 108, 109, 110, 111, 112, 113,
                      114, 115, 116, 117, 118, 119, 120, 121, 122])
                  (remI t9 (cvI .u64 t1))])
        else none
      else none
    else none
  else none
else l8 t8 t1 t5 t6 h0
def written_b24 (l8 : List Int → Int → Int → Int → List Int → Option (List Int)) (l14 : Int → Int → Int → List Int → Int → Int → Int → List Int → Option (List Int)) (l24 : List Int → Option (List Int)) (h0 : List Int) : Option (List Int) :=
  bif decide ((↑(List.length h0) : Int) > 0) then
  bif inRange (subI .i64 (↑(List.length h0) : Int) 1) (List.length h0) then
    bif decide (rdN h0 (Int.toNat (subI .i64 (↑(List.length h0) : Int) 1)) = 48) then
      bif bif decide (0 ≤ subI .i64 (↑(List.length h0) : Int) 1) then decide (subI .i64 (↑(List.length h0) : Int) 1 ≤ (↑(List.length h0) : Int)) else false then
        l24 (List.take (Int.toNat (subI .i64 (↑(List.length h0) : Int) 1 - 0)) h0)
      else none
    else some h0
  else none
else some h0
mutual
def written_L8 : Nat → (List Int) → Int → Int → Int → (List Int) → Option (List Int)
  | 0, _, _, _, _, _ => none
  | k + 1, t0, t1, t5, t6, h0 => written_b8 (written_L8 k) (written_L14 k) (written_L24 k) t0 t1 t5 t6 h0
def written_L14 : Nat → Int → Int → Int → (List Int) → Int → Int → Int → (List Int) → Option (List Int)
  | 0, _, _, _, _, _, _, _, _ => none
  | k + 1, t1, t5, t6, t8, t9, t28, t29, h0 => written_b14 (written_L8 k) (written_L14 k) (written_L24 k) t1 t5 t6 t8 t9 t28 t29 h0
def written_L24 : Nat → (List Int) → Option (List Int)
  | 0, _ => none
  | k + 1, h0 => written_b24 (written_L8 k) (written_L14 k) (written_L24 k) h0
end
noncomputable def written_E : Env (dens (gOuts [.v (.sl (.int .u64)), .v (.int .i64)] [.o 5 (.int .u8)])) := envG S.tab [(168, mkF [.int .i64] [.int .u64, .int .i64] chunkF), (32, mkZ [.sl (.int .u64)] .u64 nNormF), (77, mkF [.sl (.int .u64), .int .u64] [.sl (.int .u64), .int .u64, .int .i64] qSmallF)] Try.f160 [.tmp 4] [.v (.sl (.int .u64)), .v (.int .i64)] [.o 5 (.int .u8)] [(4, .vec 5)]
theorem written_s0 (r : Rec (dens (gOuts [.v (.sl (.int .u64)), .v (.int .i64)] [.o 5 (.int .u8)]))) (a : List Int) (b : Int) : evT written_E written_h r 3000 false [.code (bodyOf Try.f160)] (T0 0 [.ints .u64 a, .int .i64 b]) [] = written_b0 (fun t0 t1 t5 t6 h0 => r (todoOf 8 (bodyOf Try.f160)) [(0, AV.ints .u64 t0), (1, AV.int .i64 t1), (5, AV.int .u64 t5), (6, AV.int .i64 t6), (7, AV.vec (nat_lit 0) (nat_lit 1))] [Blk.I (nat_lit 5) .u8 h0]) (fun t1 t5 t6 t8 t9 t28 t29 h0 => r (todoOf 14 (bodyOf Try.f160)) [(1, AV.int .i64 t1), (5, AV.int .u64 t5), (6, AV.int .i64 t6), (7, AV.vec (nat_lit 0) (nat_lit 1)), (8, AV.ints .u64 t8),
  (9, AV.int .u64 t9), (28, AV.int .i64 t28), (29, AV.int .i64 t29)] [Blk.I (nat_lit 5) .u8 h0]) (fun h0 => r (todoOf 24 (bodyOf Try.f160)) [(7, AV.vec (nat_lit 0) (nat_lit 1))] [Blk.I (nat_lit 5) .u8 h0]) a b := by kernel_rfl
theorem written_s8 (r : Rec (dens (gOuts [.v (.sl (.int .u64)), .v (.int .i64)] [.o 5 (.int .u8)]))) (t0 : List Int) (t1 : Int) (t5 : Int) (t6 : Int) (h0 : List Int) : evT written_E written_h r 3000 true (todoOf 8 (bodyOf Try.f160)) [(0, AV.ints .u64 t0), (1, AV.int .i64 t1), (5, AV.int .u64 t5), (6, AV.int .i64 t6), (7, AV.vec (nat_lit 0) (nat_lit 1))] [Blk.I (nat_lit 5) .u8 h0] = written_b8 (fun t0 t1 t5 t6 h0 => r (todoOf 8 (bodyOf Try.f160)) [(0, AV.ints .u64 t0), (1, AV.int .i64 t1), (5, AV.int .u64 t5), (6, AV.int .i64 t6), (7, AV.vec (nat_lit 0) (nat_lit 1))] [Blk.I (nat_lit 5) .u8 h0]) (fun t1 t5 t6 t8 t9 t28 t29 h0 => r (todoOf 14 (bodyOf Try.f160)) [(1, AV.int .i64 t1), (5, AV.int .u64 t5), (6, AV.int .i64 t6), (7, AV.vec (nat_lit 0) (nat_lit 1)), (8, AV.ints .u64 t8),
  (9, AV.int .u64 t9), (28, AV.int .i64 t28), (29, AV.int .i64 t29)] [Blk.I (nat_lit 5) .u8 h0]) (fun h0 => r (todoOf 24 (bodyOf Try.f160)) [(7, AV.vec (nat_lit 0) (nat_lit 1))] [Blk.I (nat_lit 5) .u8 h0]) t0 t1 t5 t6 h0 := by kernel_rfl
theorem written_s14 (r : Rec (dens (gOuts [.v (.sl (.int .u64)), .v (.int .i64)] [.o 5 (.int .u8)]))) (t1 : Int) (t5 : Int) (t6 : Int) (t8 : List Int) (t9 : Int) (t28 : Int) (t29 : Int) (h0 : List Int) : evT written_E written_h r 3000 true (todoOf 14 (bodyOf Try.f160)) [(1, AV.int .i64 t1), (5, AV.int .u64 t5), (6, AV.int .i64 t6), (7, AV.vec (nat_lit 0) (nat_lit 1)), (8, AV.ints .u64 t8),
  (9, AV.int .u64 t9), (28, AV.int .i64 t28), (29, AV.int .i64 t29)] [Blk.I (nat_lit 5) .u8 h0] = written_b14 (fun t0 t1 t5 t6 h0 => r (todoOf 8 (bodyOf Try.f160)) [(0, AV.ints .u64 t0), (1, AV.int .i64 t1), (5, AV.int .u64 t5), (6, AV.int .i64 t6), (7, AV.vec (nat_lit 0) (nat_lit 1))] [Blk.I (nat_lit 5) .u8 h0]) (fun t1 t5 t6 t8 t9 t28 t29 h0 => r (todoOf 14 (bodyOf Try.f160)) [(1, AV.int .i64 t1), (5, AV.int .u64 t5), (6, AV.int .i64 t6), (7, AV.vec (nat_lit 0) (nat_lit 1)), (8, AV.ints .u64 t8),
  (9, AV.int .u64 t9), (28, AV.int .i64 t28), (29, AV.int .i64 t29)] [Blk.I (nat_lit 5) .u8 h0]) (fun h0 => r (todoOf 24 (bodyOf Try.f160)) [(7, AV.vec (nat_lit 0) (nat_lit 1))] [Blk.I (nat_lit 5) .u8 h0]) t1 t5 t6 t8 t9 t28 t29 h0 := by kernel_rfl
theorem written_s24 (r : Rec (dens (gOuts [.v (.sl (.int .u64)), .v (.int .i64)] [.o 5 (.int .u8)]))) (h0 : List Int) : evT written_E written_h r 3000 true (todoOf 24 (bodyOf Try.f160)) [(7, AV.vec (nat_lit 0) (nat_lit 1))] [Blk.I (nat_lit 5) .u8 h0] = written_b24 (fun t0 t1 t5 t6 h0 => r (todoOf 8 (bodyOf Try.f160)) [(0, AV.ints .u64 t0), (1, AV.int .i64 t1), (5, AV.int .u64 t5), (6, AV.int .i64 t6), (7, AV.vec (nat_lit 0) (nat_lit 1))] [Blk.I (nat_lit 5) .u8 h0]) (fun t1 t5 t6 t8 t9 t28 t29 h0 => r (todoOf 14 (bodyOf Try.f160)) [(1, AV.int .i64 t1), (5, AV.int .u64 t5), (6, AV.int .i64 t6), (7, AV.vec (nat_lit 0) (nat_lit 1)), (8, AV.ints .u64 t8),
  (9, AV.int .u64 t9), (28, AV.int .i64 t28), (29, AV.int .i64 t29)] [Blk.I (nat_lit 5) .u8 h0]) (fun h0 => r (todoOf 24 (bodyOf Try.f160)) [(7, AV.vec (nat_lit 0) (nat_lit 1))] [Blk.I (nat_lit 5) .u8 h0]) h0 := by kernel_rfl
theorem written_k : ∀ k, (∀ (t0 : List Int) (t1 : Int) (t5 : Int) (t6 : Int) (h0 : List Int), evK written_E written_h 3000 k (todoOf 8 (bodyOf Try.f160)) [(0, AV.ints .u64 t0), (1, AV.int .i64 t1), (5, AV.int .u64 t5), (6, AV.int .i64 t6), (7, AV.vec (nat_lit 0) (nat_lit 1))] [Blk.I (nat_lit 5) .u8 h0] = written_L8 k t0 t1 t5 t6 h0) ∧ (∀ (t1 : Int) (t5 : Int) (t6 : Int) (t8 : List Int) (t9 : Int) (t28 : Int) (t29 : Int) (h0 : List Int), evK written_E written_h 3000 k (todoOf 14 (bodyOf Try.f160)) [(1, AV.int .i64 t1), (5, AV.int .u64 t5), (6, AV.int .i64 t6), (7, AV.vec (nat_lit 0) (nat_lit 1)), (8, AV.ints .u64 t8),
  (9, AV.int .u64 t9), (28, AV.int .i64 t28), (29, AV.int .i64 t29)] [Blk.I (nat_lit 5) .u8 h0] = written_L14 k t1 t5 t6 t8 t9 t28 t29 h0) ∧ (∀ (h0 : List Int), evK written_E written_h 3000 k (todoOf 24 (bodyOf Try.f160)) [(7, AV.vec (nat_lit 0) (nat_lit 1))] [Blk.I (nat_lit 5) .u8 h0] = written_L24 k h0)
  | 0 => by
    refine ⟨?_, ?_, ?_⟩ <;> intros <;> rfl
  | k + 1 => by
    have ih := written_k k
    refine ⟨?_, ?_, ?_⟩ <;> intros
    · exact ((written_s8 _ _ _ _ _ _).trans (by simp only [ih] <;> rfl))
    · exact ((written_s14 _ _ _ _ _ _ _ _ _).trans (by simp only [ih] <;> rfl))
    · exact ((written_s24 _ _).trans (by simp only [ih] <;> rfl))
theorem written_ev (k : Nat) (a : List Int) (b : Int) : evM written_E written_h 3000 k [.code (bodyOf Try.f160)] (T0 0 [.ints .u64 a, .int .i64 b]) [] = written_b0 (written_L8 k) (written_L14 k) (written_L24 k) a b := by
  refine (written_s0 _ a b).trans ?_
  simp only [written_k k] <;> rfl

/-! ### slices.Reverse[[]byte,byte] -/
def revy_h : Nat → Option Head := hintOf [(2, ⟨[(0, .same), (2, .same), (3, .same)], 1⟩)]
def revy_b0 (l2 : Nat → Nat → Int → Int → List Int → Option (List Int × PUnit)) (o : Nat) (n : Nat) (h : List Int) : Option (List Int × PUnit) :=
  l2 o n 0 (subI .i64 (↑n : Int) 1) h
def revy_b2 (l2 : Nat → Nat → Int → Int → List Int → Option (List Int × PUnit)) (t0o : Nat) (t0n : Nat) (t2 : Int) (t3 : Int) (h0 : List Int) : Option (List Int × PUnit) :=
  bif decide (t2 < t3) then
  bif inRange t3 t0n then
    bif inRange t2 t0n then
      bif inRange t2 t0n then
        bif inRange t3 t0n then
          l2 t0o t0n (addI .i64 t2 1) (subI .i64 t3 1)
            (wrI (wrI h0 (t0o + Int.toNat t2) (rdN h0 (t0o + Int.toNat t3))) (t0o + Int.toNat t3) (rdN h0 (t0o + Int.toNat t2)))
        else none
      else none
    else none
  else none
else some (h0, PUnit.unit)
mutual
def revy_L2 : Nat → Nat → Nat → Int → Int → (List Int) → Option (List Int × PUnit)
  | 0, _, _, _, _, _ => none
  | k + 1, t0o, t0n, t2, t3, h0 => revy_b2 (revy_L2 k) t0o t0n t2 t3 h0
end
noncomputable def revy_E : Env (List Int × dens []) := envM S.tab [] Try.f161 [] [] 5 .u8
theorem revy_s0 (r : Rec (List Int × dens [])) (o : Nat) (n : Nat) (h : List Int) : evT revy_E revy_h r 3000 false [.code (bodyOf Try.f161)] (T0 0 [.ref 0 1 o n none]) [.I 1000005 .u8 h] = revy_b0 (fun t0o t0n t2 t3 h0 => r (todoOf 2 (bodyOf Try.f161)) [(0, AV.ref (nat_lit 0) (nat_lit 1) t0o t0n none), (2, AV.int .i64 t2), (3, AV.int .i64 t3)] [Blk.I (nat_lit 1000005) .u8 h0]) o n h := by kernel_rfl
theorem revy_s2 (r : Rec (List Int × dens [])) (t0o : Nat) (t0n : Nat) (t2 : Int) (t3 : Int) (h0 : List Int) : evT revy_E revy_h r 3000 true (todoOf 2 (bodyOf Try.f161)) [(0, AV.ref (nat_lit 0) (nat_lit 1) t0o t0n none), (2, AV.int .i64 t2), (3, AV.int .i64 t3)] [Blk.I (nat_lit 1000005) .u8 h0] = revy_b2 (fun t0o t0n t2 t3 h0 => r (todoOf 2 (bodyOf Try.f161)) [(0, AV.ref (nat_lit 0) (nat_lit 1) t0o t0n none), (2, AV.int .i64 t2), (3, AV.int .i64 t3)] [Blk.I (nat_lit 1000005) .u8 h0]) t0o t0n t2 t3 h0 := by kernel_rfl
theorem revy_k : ∀ k, (∀ (t0o : Nat) (t0n : Nat) (t2 : Int) (t3 : Int) (h0 : List Int), evK revy_E revy_h 3000 k (todoOf 2 (bodyOf Try.f161)) [(0, AV.ref (nat_lit 0) (nat_lit 1) t0o t0n none), (2, AV.int .i64 t2), (3, AV.int .i64 t3)] [Blk.I (nat_lit 1000005) .u8 h0] = revy_L2 k t0o t0n t2 t3 h0)
  | 0 => by
    refine ?_ <;> intros <;> rfl
  | k + 1 => by
    have ih := revy_k k
    refine ?_ <;> intros
    · exact ((revy_s2 _ _ _ _ _ _).trans (by simp only [ih] <;> rfl))
theorem revy_ev (k : Nat) (o : Nat) (n : Nat) (h : List Int) : evM revy_E revy_h 3000 k [.code (bodyOf Try.f161)] (T0 0 [.ref 0 1 o n none]) [.I 1000005 .u8 h] = revy_b0 (revy_L2 k) o n h := by
  refine (revy_s0 _ o n h).trans ?_
  simp only [revy_k k] <;> rfl

/-! ### plumb/radix.Text -/
def Text_h : Nat → Option Head := hintOf []
def Text_b0  (a : List Int) (b : Int) : Option (ByteArray × Int) :=
  Option.bind (basedF b) fun t =>
  bif !t then some (strOfI [], 40)
  else
    Option.bind (nNormF a) fun t =>
      bif decide ((↑(List.length t) : Int) > 4096) then some (strOfI [], 21)
      else
        bif decide ((↑(List.length t) : Int) = 0) then some (strOfI [48], 0)
        else
          Option.bind (writtenF (t, b)) fun t =>
            bif decide (nat_lit 0 + List.length t ≤ List.length t) then Option.bind (revyF (List.take (List.length t) t, PUnit.unit)) fun t_1 => some (strOfI (splice t (nat_lit 0) t_1.1), 0)
            else none
noncomputable def Text_E : Env (dens [.str, .int .i64]) := envOf S.tab [(159, mkF [.int .i64] [.bool] basedF), (32, mkZ [.sl (.int .u64)] .u64 nNormF), (160, mkG [.v (.sl (.int .u64)), .v (.int .i64)] [.o 5 (.int .u8)] writtenF), (161, mkM [] [] 5 .u8 revyF)] Try.f153 [4, 5] [.str, .int .i64]
theorem Text_s0 (r : Rec (dens [.str, .int .i64])) (a : List Int) (b : Int) : evT Text_E Text_h r 3000 false [.code (bodyOf Try.f153)] (T0 0 [.ints .u64 a, .int .i64 b]) [] = Text_b0  a b := by kernel_rfl
theorem Text_ev (k : Nat) (a : List Int) (b : Int) : evM Text_E Text_h 3000 k [.code (bodyOf Try.f153)] (T0 0 [.ints .u64 a, .int .i64 b]) [] = Text_b0  a b := by
  exact Text_s0 _ a b

/-! ### plumb/radix.Five -/
def Five_h : Nat → Option Head := hintOf []
def Five_b0  (a : Int) : Option (List Int × Int) :=
  bif decide (a > 112899) then some ([], 21) else Option.bind (qPowF ([5], a)) fun t => some (t.1, t.2)
noncomputable def Five_E : Env (dens [.sl (.int .u64), .int .i64]) := envOf S.tab [(46, mkF [.sl (.int .u64), .int .i64] [.sl (.int .u64), .int .i64] qPowF)] Try.f139 [2, 3] [.sl (.int .u64), .int .i64]
theorem Five_s0 (r : Rec (dens [.sl (.int .u64), .int .i64])) (a : Int) : evT Five_E Five_h r 3000 false [.code (bodyOf Try.f139)] (T0 0 [.int .i64 a]) [] = Five_b0  a := by kernel_rfl
theorem Five_ev (k : Nat) (a : Int) : evM Five_E Five_h 3000 k [.code (bodyOf Try.f139)] (T0 0 [.int .i64 a]) [] = Five_b0  a := by
  exact Five_s0 _ a

/-! ### plumb/radix.Ten -/
def Ten_h : Nat → Option Head := hintOf []
def Ten_b0  (a : Int) : Option (List Int × Int) :=
  bif decide (a > 78913) then some ([], 21)
else Option.bind (Five5F a) fun t => bif !decide (t.2 = 0) then some ([], t.2) else Option.bind (nShlF (t.1, a)) fun t => some (t.1, t.2)
noncomputable def Ten_E : Env (dens [.sl (.int .u64), .int .i64]) := envOf S.tab [(139, mkF [.int .i64] [.sl (.int .u64), .int .i64] Five5F), (42, mkF [.sl (.int .u64), .int .i64] [.sl (.int .u64), .int .i64] nShlF)] Try.f142 [2, 3] [.sl (.int .u64), .int .i64]
theorem Ten_s0 (r : Rec (dens [.sl (.int .u64), .int .i64])) (a : Int) : evT Ten_E Ten_h r 3000 false [.code (bodyOf Try.f142)] (T0 0 [.int .i64 a]) [] = Ten_b0  a := by kernel_rfl
theorem Ten_ev (k : Nat) (a : Int) : evM Ten_E Ten_h 3000 k [.code (bodyOf Try.f142)] (T0 0 [.int .i64 a]) [] = Ten_b0  a := by
  exact Ten_s0 _ a

/-! ### plumb/radix.Count -/
def Count_h : Nat → Option Head := hintOf []
def Count_b0  (a : List Int) : Option (Int) :=
  Option.bind (TextF (a, 10)) fun t => some (↑(ByteArray.size t.1) : Int)
noncomputable def Count_E : Env (dens [.int .i64]) := envOf S.tab [(153, mkF [.sl (.int .u64), .int .i64] [.str, .int .i64] TextF)] Try.f141 [2] [.int .i64]
theorem Count_s0 (r : Rec (dens [.int .i64])) (a : List Int) : evT Count_E Count_h r 3000 false [.code (bodyOf Try.f141)] (T0 0 [.ints .u64 a]) [] = Count_b0  a := by kernel_rfl
theorem Count_ev (k : Nat) (a : List Int) : evM Count_E Count_h 3000 k [.code (bodyOf Try.f141)] (T0 0 [.ints .u64 a]) [] = Count_b0  a := by
  exact Count_s0 _ a

/-! ### plumb/power.sides -/
def sides_h : Nat → Option Head := hintOf []
def sides_b0   : Option (List AV) :=
  some [AV.fn (nat_lit 157), AV.fn (nat_lit 158)]
noncomputable def sides_E : Env (dens [.st [.opq 1, .opq 1]]) := envR S.tab [] Try.f152 [.cell 0 132] [.st [.opq 1, .opq 1]]
theorem sides_s0 (r : Rec (dens [.st [.opq 1, .opq 1]]))  : evT sides_E sides_h r 3000 false [.code (bodyOf Try.f152)] (T0 0 []) [] = sides_b0   := by kernel_rfl
theorem sides_ev (k : Nat)  : evM sides_E sides_h 3000 k [.code (bodyOf Try.f152)] (T0 0 []) [] = sides_b0   := by
  exact sides_s0 _ 

/-! ### plumb/power.told -/
def ptold_h : Nat → Option Head := hintOf []
def ptold_b0  (a : List Int) (b : Int) (c : Bool) : Option (List AV) :=
  bif !decide ((↑(List.length a) : Int) = 2) then some [AV.int .u64 0, AV.int .u64 0, AV.int .i64 0, AV.bool false]
else
  bif inRange 1 (List.length a) then
    bif inRange 0 (List.length a) then some [AV.int .u64 (rdI a 1), AV.int .u64 (rdI a 0), AV.int .i64 b, AV.bool c] else none
  else none
noncomputable def ptold_E : Env (dens [.st [.int .u64, .int .u64, .int .i64, .bool]]) := envR S.tab [] Try.f167 [.cell 6 120] [.st [.int .u64, .int .u64, .int .i64, .bool]]
theorem ptold_s0 (r : Rec (dens [.st [.int .u64, .int .u64, .int .i64, .bool]])) (a : List Int) (b : Int) (c : Bool) : evT ptold_E ptold_h r 3000 false [.code (bodyOf Try.f167)] (T0 0 [.ints .u64 a, .int .i64 b, .bool c]) [] = ptold_b0  a b c := by kernel_rfl
theorem ptold_ev (k : Nat) (a : List Int) (b : Int) (c : Bool) : evM ptold_E ptold_h 3000 k [.code (bodyOf Try.f167)] (T0 0 [.ints .u64 a, .int .i64 b, .bool c]) [] = ptold_b0  a b c := by
  exact ptold_s0 _ a b c

/-! ### plumb/power.up -/
def up_h : Nat → Option Head := hintOf []
def up_b0  (a : Int) : Option (List AV) :=
  Option.bind (Five5F a) fun t =>
  Option.bind (nBitsF t.1) fun t_1 =>
    bif decide (subI .i64 t_1 128 ≤ 0) then
      Option.bind (nShlF (t.1, subI .i64 0 (subI .i64 t_1 128))) fun t =>
        Option.bind (ptoldF (t.1, subI .i64 t_1 128, true)) fun t =>
          some
            [AV.int .u64 (AV.toInt (aget t (nat_lit 0))), AV.int .u64 (AV.toInt (aget t (nat_lit 1))), AV.int .i64 (AV.toInt (aget t (nat_lit 2))),
              AV.bool (AV.toBool (aget t (nat_lit 3)))]
    else
      Option.bind (nShrF (t.1, subI .i64 t_1 128)) fun t =>
        Option.bind (ptoldF (t.1, subI .i64 t_1 128, !(Prod.snd t).1)) fun t =>
          some
            [AV.int .u64 (AV.toInt (aget t (nat_lit 0))), AV.int .u64 (AV.toInt (aget t (nat_lit 1))), AV.int .i64 (AV.toInt (aget t (nat_lit 2))),
              AV.bool (AV.toBool (aget t (nat_lit 3)))]
noncomputable def up_E : Env (dens [.st [.int .u64, .int .u64, .int .i64, .bool]]) := envR S.tab [(139, mkF [.int .i64] [.sl (.int .u64), .int .i64] Five5F), (43, mkF [.sl (.int .u64)] [.int .i64] nBitsF), (42, mkF [.sl (.int .u64), .int .i64] [.sl (.int .u64), .int .i64] nShlF), (52, mkF [.sl (.int .u64), .int .i64] [.sl (.int .u64), .bool, .int .i64] nShrF), (167, mkF [.sl (.int .u64), .int .i64, .bool] [.st [.int .u64, .int .u64, .int .i64, .bool]] ptoldF)] Try.f157 [.cell 2 120] [.st [.int .u64, .int .u64, .int .i64, .bool]]
theorem up_s0 (r : Rec (dens [.st [.int .u64, .int .u64, .int .i64, .bool]])) (a : Int) : evT up_E up_h r 3000 false [.code (bodyOf Try.f157)] (T0 0 [.int .i64 a]) [] = up_b0  a := by kernel_rfl
theorem up_ev (k : Nat) (a : Int) : evM up_E up_h 3000 k [.code (bodyOf Try.f157)] (T0 0 [.int .i64 a]) [] = up_b0  a := by
  exact up_s0 _ a

/-! ### plumb/power.down -/
def down_h : Nat → Option Head := hintOf []
def down_b0  (a : Int) : Option (List AV) :=
  Option.bind (Five5F (subI .i64 0 a)) fun t =>
  Option.bind (nBitsF t.1) fun t_1 =>
    Option.bind (nShlF ([1], subI .i64 0 (subI .i64 0 (addI .i64 t_1 127)))) fun t_2 =>
      Option.bind (DivModF (t_2.1, t.1)) fun t =>
        Option.bind (ptoldF (t.1, subI .i64 0 (addI .i64 t_1 127), false)) fun t =>
          some
            [AV.int .u64 (AV.toInt (aget t (nat_lit 0))), AV.int .u64 (AV.toInt (aget t (nat_lit 1))), AV.int .i64 (AV.toInt (aget t (nat_lit 2))),
              AV.bool (AV.toBool (aget t (nat_lit 3)))]
noncomputable def down_E : Env (dens [.st [.int .u64, .int .u64, .int .i64, .bool]]) := envR S.tab [(139, mkF [.int .i64] [.sl (.int .u64), .int .i64] Five5F), (43, mkF [.sl (.int .u64)] [.int .i64] nBitsF), (42, mkF [.sl (.int .u64), .int .i64] [.sl (.int .u64), .int .i64] nShlF), (75, mkF [.sl (.int .u64), .sl (.int .u64)] [.sl (.int .u64), .sl (.int .u64), .int .i64] DivModF), (167, mkF [.sl (.int .u64), .int .i64, .bool] [.st [.int .u64, .int .u64, .int .i64, .bool]] ptoldF)] Try.f158 [.cell 2 120] [.st [.int .u64, .int .u64, .int .i64, .bool]]
theorem down_s0 (r : Rec (dens [.st [.int .u64, .int .u64, .int .i64, .bool]])) (a : Int) : evT down_E down_h r 3000 false [.code (bodyOf Try.f158)] (T0 0 [.int .i64 a]) [] = down_b0  a := by kernel_rfl
theorem down_ev (k : Nat) (a : Int) : evM down_E down_h 3000 k [.code (bodyOf Try.f158)] (T0 0 [.int .i64 a]) [] = down_b0  a := by
  exact down_s0 _ a

/-! ### plumb/power.at -/
def at_h : Nat → Option Head := hintOf []
def at_b0  (a : Int) : Option (List AV × Bool) :=
  bif decide (a < (-348 : Int)) then some ([AV.int .u64 0, AV.int .u64 0, AV.int .i64 0, AV.bool false], false)
else
  bif decide (a > 347) then some ([AV.int .u64 0, AV.int .u64 0, AV.int .i64 0, AV.bool false], false)
  else
    bif decide (a < 0) then
      Option.bind (downF a) fun t =>
        some
          ([AV.int .u64 (AV.toInt (aget t (nat_lit 0))), AV.int .u64 (AV.toInt (aget t (nat_lit 1))), AV.int .i64 (AV.toInt (aget t (nat_lit 2))),
              AV.bool (AV.toBool (aget t (nat_lit 3)))],
            true)
    else
      Option.bind (upF a) fun t =>
        some
          ([AV.int .u64 (AV.toInt (aget t (nat_lit 0))), AV.int .u64 (AV.toInt (aget t (nat_lit 1))), AV.int .i64 (AV.toInt (aget t (nat_lit 2))),
              AV.bool (AV.toBool (aget t (nat_lit 3)))],
            true)
noncomputable def at_E : Env (dens [.st [.int .u64, .int .u64, .int .i64, .bool], .bool]) := envR S.tab [(152, mkF [] [.st [.opq 1, .opq 1]] sidesC), (157, mkF [.int .i64] [.st [.int .u64, .int .u64, .int .i64, .bool]] upF), (158, mkF [.int .i64] [.st [.int .u64, .int .u64, .int .i64, .bool]] downF)] Try.f138 [.cell 2 120, .tmp 3] [.st [.int .u64, .int .u64, .int .i64, .bool], .bool]
theorem at_s0 (r : Rec (dens [.st [.int .u64, .int .u64, .int .i64, .bool], .bool])) (a : Int) : evT at_E at_h r 3000 false [.code (bodyOf Try.f138)] (T0 0 [.int .i64 a]) [] = at_b0  a := by kernel_rfl
theorem at_ev (k : Nat) (a : Int) : evM at_E at_h 3000 k [.code (bodyOf Try.f138)] (T0 0 [.int .i64 a]) [] = at_b0  a := by
  exact at_s0 _ a

/-! ### plumb/power.Five -/
def pFive_h : Nat → Option Head := hintOf []
def pFive_b0  (a : Int) : Option (Int × Int × Int × Int) :=
  Option.bind (atF a) fun t =>
  bif !t.2 then some (0, 0, 0, 80) else some (AV.toInt (aget t.1 (nat_lit 0)), AV.toInt (aget t.1 (nat_lit 1)), AV.toInt (aget t.1 (nat_lit 2)), 0)
noncomputable def pFive_E : Env (dens [.int .u64, .int .u64, .int .i64, .int .i64]) := envOf S.tab [(138, mkF [.int .i64] [.st [.int .u64, .int .u64, .int .i64, .bool], .bool] atF)] Try.f94 [2, 3, 4, 5] [.int .u64, .int .u64, .int .i64, .int .i64]
theorem pFive_s0 (r : Rec (dens [.int .u64, .int .u64, .int .i64, .int .i64])) (a : Int) : evT pFive_E pFive_h r 3000 false [.code (bodyOf Try.f94)] (T0 0 [.int .i64 a]) [] = pFive_b0  a := by kernel_rfl
theorem pFive_ev (k : Nat) (a : Int) : evM pFive_E pFive_h 3000 k [.code (bodyOf Try.f94)] (T0 0 [.int .i64 a]) [] = pFive_b0  a := by
  exact pFive_s0 _ a

/-! ### plumb/power.Whole -/
def pWhole_h : Nat → Option Head := hintOf []
def pWhole_b0  (a : Int) : Option (Bool × Int) :=
  Option.bind (atF a) fun t => bif !t.2 then some (false, 80) else some (AV.toBool (aget t.1 (nat_lit 3)), 0)
noncomputable def pWhole_E : Env (dens [.bool, .int .i64]) := envOf S.tab [(138, mkF [.int .i64] [.st [.int .u64, .int .u64, .int .i64, .bool], .bool] atF)] Try.f96 [2, 3] [.bool, .int .i64]
theorem pWhole_s0 (r : Rec (dens [.bool, .int .i64])) (a : Int) : evT pWhole_E pWhole_h r 3000 false [.code (bodyOf Try.f96)] (T0 0 [.int .i64 a]) [] = pWhole_b0  a := by kernel_rfl
theorem pWhole_ev (k : Nat) (a : Int) : evM pWhole_E pWhole_h 3000 k [.code (bodyOf Try.f96)] (T0 0 [.int .i64 a]) [] = pWhole_b0  a := by
  exact pWhole_s0 _ a

/-! ### plumb/power.Above -/
def pAbove_h : Nat → Option Head := hintOf []
def pAbove_b0  (a : Int) : Option (Int × Int × Int × Int) :=
  Option.bind (atF a) fun t =>
  bif !t.2 then some (0, 0, 0, 80)
  else
    bif AV.toBool (aget t.1 (nat_lit 3)) then some (AV.toInt (aget t.1 (nat_lit 0)), AV.toInt (aget t.1 (nat_lit 1)), AV.toInt (aget t.1 (nat_lit 2)), 0)
    else
      Option.bind (wAddF (AV.toInt (aget t.1 (nat_lit 1)), 1, 0)) fun t_1 =>
        Option.bind (wAddF (AV.toInt (aget t.1 (nat_lit 0)), 0, t_1.2)) fun t_2 =>
          bif decide (t_2.2 = 1) then some (9223372036854775808, 0, addI .i64 (AV.toInt (aget t.1 (nat_lit 2))) 1, 0)
          else some (t_2.1, t_1.1, AV.toInt (aget t.1 (nat_lit 2)), 0)
noncomputable def pAbove_E : Env (dens [.int .u64, .int .u64, .int .i64, .int .i64]) := envOf S.tab [(138, mkF [.int .i64] [.st [.int .u64, .int .u64, .int .i64, .bool], .bool] atF), (39, mkF [.int .u64, .int .u64, .int .u64] [.int .u64, .int .u64] wAddF)] Try.f99 [2, 3, 4, 5] [.int .u64, .int .u64, .int .i64, .int .i64]
theorem pAbove_s0 (r : Rec (dens [.int .u64, .int .u64, .int .i64, .int .i64])) (a : Int) : evT pAbove_E pAbove_h r 3000 false [.code (bodyOf Try.f99)] (T0 0 [.int .i64 a]) [] = pAbove_b0  a := by kernel_rfl
theorem pAbove_ev (k : Nat) (a : Int) : evM pAbove_E pAbove_h 3000 k [.code (bodyOf Try.f99)] (T0 0 [.int .i64 a]) [] = pAbove_b0  a := by
  exact pAbove_s0 _ a

/-! ### plumb/power.Log2 -/
def pLog2_h : Nat → Option Head := hintOf []
def pLog2_b0  (a : Int) : Option (Int × Int) :=
  Option.bind (atF a) fun t => bif !t.2 then some (0, 80) else some (addI .i64 (addI .i64 (AV.toInt (aget t.1 (nat_lit 2))) 127) a, 0)
noncomputable def pLog2_E : Env (dens [.int .i64, .int .i64]) := envOf S.tab [(138, mkF [.int .i64] [.st [.int .u64, .int .u64, .int .i64, .bool], .bool] atF)] Try.f100 [2, 3] [.int .i64, .int .i64]
theorem pLog2_s0 (r : Rec (dens [.int .i64, .int .i64])) (a : Int) : evT pLog2_E pLog2_h r 3000 false [.code (bodyOf Try.f100)] (T0 0 [.int .i64 a]) [] = pLog2_b0  a := by kernel_rfl
theorem pLog2_ev (k : Nat) (a : Int) : evM pLog2_E pLog2_h 3000 k [.code (bodyOf Try.f100)] (T0 0 [.int .i64 a]) [] = pLog2_b0  a := by
  exact pLog2_s0 _ a

/-! ### plumb/power.Log10 -/
def pLog10_h : Nat → Option Head := hintOf []
def pLog10_b0  (a : Int) : Option (Int × Int) :=
  bif decide (a < (-1200 : Int)) then some (0, 80)
else
  bif decide (a > 1200) then some (0, 80)
  else
    Option.bind (nShlF ([1], maxI a (subI .i64 0 a))) fun t =>
      Option.bind (CountF t.1) fun t =>
        bif decide (a ≥ 0) then some (subI .i64 t 1, 0) else some (subI .i64 (subI .i64 0 (subI .i64 t 1)) 1, 0)
noncomputable def pLog10_E : Env (dens [.int .i64, .int .i64]) := envOf S.tab [(42, mkF [.sl (.int .u64), .int .i64] [.sl (.int .u64), .int .i64] nShlF), (141, mkF [.sl (.int .u64)] [.int .i64] CountF)] Try.f101 [2, 3] [.int .i64, .int .i64]
theorem pLog10_s0 (r : Rec (dens [.int .i64, .int .i64])) (a : Int) : evT pLog10_E pLog10_h r 3000 false [.code (bodyOf Try.f101)] (T0 0 [.int .i64 a]) [] = pLog10_b0  a := by kernel_rfl
theorem pLog10_ev (k : Nat) (a : Int) : evM pLog10_E pLog10_h 3000 k [.code (bodyOf Try.f101)] (T0 0 [.int .i64 a]) [] = pLog10_b0  a := by
  exact pLog10_s0 _ a

/-! ### plumb/plumbref04.TooLong -/
def tooLong_h : Nat → Option Head := hintOf []
def tooLong_b0  (a : List Int) : Option (Bool) :=
  Option.bind (r3BitsF a) fun t => some (decide (t > 262144))
noncomputable def tooLong_E : Env (dens [.bool]) := envOf S.tab [(118, mkF [.sl (.int .u64)] [.int .i64] r3BitsF)] Try.f162 [2] [.bool]
theorem tooLong_s0 (r : Rec (dens [.bool])) (a : List Int) : evT tooLong_E tooLong_h r 3000 false [.code (bodyOf Try.f162)] (T0 0 [.ints .u64 a]) [] = tooLong_b0  a := by kernel_rfl
theorem tooLong_ev (k : Nat) (a : List Int) : evM tooLong_E tooLong_h 3000 k [.code (bodyOf Try.f162)] (T0 0 [.ints .u64 a]) [] = tooLong_b0  a := by
  exact tooLong_s0 _ a

/-! ### plumb/plumbref04.cut -/
def cut4_h : Nat → Option Head := hintOf [(2, ⟨[(0, .vec 36)], 1⟩)]
def cut4_b0 (l2 : List Int → Option (List Int)) (a : List Int) : Option (List Int) :=
  l2 a
def cut4_b2 (l2 : List Int → Option (List Int)) (h0 : List Int) : Option (List Int) :=
  bif decide ((↑(List.length h0) : Int) > 0) then
  bif inRange (subI .i64 (↑(List.length h0) : Int) 1) (List.length h0) then
    bif decide (rdN h0 (Int.toNat (subI .i64 (↑(List.length h0) : Int) 1)) = 0) then
      bif bif decide (0 ≤ subI .i64 (↑(List.length h0) : Int) 1) then decide (subI .i64 (↑(List.length h0) : Int) 1 ≤ (↑(List.length h0) : Int)) else false then
        l2 (List.take (Int.toNat (subI .i64 (↑(List.length h0) : Int) 1 - 0)) h0)
      else none
    else some h0
  else none
else some h0
mutual
def cut4_L2 : Nat → (List Int) → Option (List Int)
  | 0, _ => none
  | k + 1, h0 => cut4_b2 (cut4_L2 k) h0
end
noncomputable def cut4_E : Env (dens (gOuts [.c 36 (.int .u64)] [.o 36 (.int .u64)])) := envG S.tab [] Try.f166 [.tmp 2] [.c 36 (.int .u64)] [.o 36 (.int .u64)] [(2, .vec 36)]
theorem cut4_s0 (r : Rec (dens (gOuts [.c 36 (.int .u64)] [.o 36 (.int .u64)]))) (a : List Int) : evT cut4_E cut4_h r 3000 false [.code (bodyOf Try.f166)] (T0 0 [.vec 0 1]) [.I 36 .u64 a] = cut4_b0 (fun h0 => r (todoOf 2 (bodyOf Try.f166)) [(0, AV.vec (nat_lit 0) (nat_lit 1))] [Blk.I (nat_lit 36) .u64 h0]) a := by kernel_rfl
theorem cut4_s2 (r : Rec (dens (gOuts [.c 36 (.int .u64)] [.o 36 (.int .u64)]))) (h0 : List Int) : evT cut4_E cut4_h r 3000 true (todoOf 2 (bodyOf Try.f166)) [(0, AV.vec (nat_lit 0) (nat_lit 1))] [Blk.I (nat_lit 36) .u64 h0] = cut4_b2 (fun h0 => r (todoOf 2 (bodyOf Try.f166)) [(0, AV.vec (nat_lit 0) (nat_lit 1))] [Blk.I (nat_lit 36) .u64 h0]) h0 := by kernel_rfl
theorem cut4_k : ∀ k, (∀ (h0 : List Int), evK cut4_E cut4_h 3000 k (todoOf 2 (bodyOf Try.f166)) [(0, AV.vec (nat_lit 0) (nat_lit 1))] [Blk.I (nat_lit 36) .u64 h0] = cut4_L2 k h0)
  | 0 => by
    refine ?_ <;> intros <;> rfl
  | k + 1 => by
    have ih := cut4_k k
    refine ?_ <;> intros
    · exact ((cut4_s2 _ _).trans (by simp only [ih] <;> rfl))
theorem cut4_ev (k : Nat) (a : List Int) : evM cut4_E cut4_h 3000 k [.code (bodyOf Try.f166)] (T0 0 [.vec 0 1]) [.I 36 .u64 a] = cut4_b0 (cut4_L2 k) a := by
  refine (cut4_s0 _ a).trans ?_
  simp only [cut4_k k] <;> rfl

/-! ### plumb/plumbref04.limbs -/
def limbs_h : Nat → Option Head := hintOf [(6, ⟨[(0, .same), (3, .vec 36), (4, .same)], 1⟩)]
def limbs_b0 (l6 : List Int → Int → List Int → Option (List Int)) (a : List Int) : Option (List Int) :=
  l6 a 0 []
def limbs_b6 (l6 : List Int → Int → List Int → Option (List Int)) (t0 : List Int) (t4 : Int) (h0 : List Int) : Option (List Int) :=
  bif decide (t4 < (↑(List.length t0) : Int)) then
  bif inRange t4 (List.length t0) then
    bif inRange t4 (List.length t0) then
      bif decide ((↑(List.length (h0 ++ [andI .u64 (rdI t0 t4) 4294967295, shrI .u64 (rdI t0 t4) 32])) : Int) * 8 ≤ 140737488355328) then
        l6 t0 (addI .i64 t4 1) (h0 ++ [andI .u64 (rdI t0 t4) 4294967295, shrI .u64 (rdI t0 t4) 32])
      else none
    else none
  else none
else Option.bind (cut4F h0) fun t => some t
mutual
def limbs_L6 : Nat → (List Int) → Int → (List Int) → Option (List Int)
  | 0, _, _, _ => none
  | k + 1, t0, t4, h0 => limbs_b6 (limbs_L6 k) t0 t4 h0
end
noncomputable def limbs_E : Env (dens (gOuts [.v (.sl (.int .u64))] [.o 36 (.int .u64)])) := envG S.tab [(166, mkG [.c 36 (.int .u64)] [.o 36 (.int .u64)] cut4F)] Try.f164 [.tmp 2] [.v (.sl (.int .u64))] [.o 36 (.int .u64)] [(2, .vec 36)]
theorem limbs_s0 (r : Rec (dens (gOuts [.v (.sl (.int .u64))] [.o 36 (.int .u64)]))) (a : List Int) : evT limbs_E limbs_h r 3000 false [.code (bodyOf Try.f164)] (T0 0 [.ints .u64 a]) [] = limbs_b0 (fun t0 t4 h0 => r (todoOf 6 (bodyOf Try.f164)) [(0, AV.ints .u64 t0), (3, AV.vec (nat_lit 0) (nat_lit 1)), (4, AV.int .i64 t4)] [Blk.I (nat_lit 36) .u64 h0]) a := by kernel_rfl
theorem limbs_s6 (r : Rec (dens (gOuts [.v (.sl (.int .u64))] [.o 36 (.int .u64)]))) (t0 : List Int) (t4 : Int) (h0 : List Int) : evT limbs_E limbs_h r 3000 true (todoOf 6 (bodyOf Try.f164)) [(0, AV.ints .u64 t0), (3, AV.vec (nat_lit 0) (nat_lit 1)), (4, AV.int .i64 t4)] [Blk.I (nat_lit 36) .u64 h0] = limbs_b6 (fun t0 t4 h0 => r (todoOf 6 (bodyOf Try.f164)) [(0, AV.ints .u64 t0), (3, AV.vec (nat_lit 0) (nat_lit 1)), (4, AV.int .i64 t4)] [Blk.I (nat_lit 36) .u64 h0]) t0 t4 h0 := by kernel_rfl
theorem limbs_k : ∀ k, (∀ (t0 : List Int) (t4 : Int) (h0 : List Int), evK limbs_E limbs_h 3000 k (todoOf 6 (bodyOf Try.f164)) [(0, AV.ints .u64 t0), (3, AV.vec (nat_lit 0) (nat_lit 1)), (4, AV.int .i64 t4)] [Blk.I (nat_lit 36) .u64 h0] = limbs_L6 k t0 t4 h0)
  | 0 => by
    refine ?_ <;> intros <;> rfl
  | k + 1 => by
    have ih := limbs_k k
    refine ?_ <;> intros
    · exact ((limbs_s6 _ _ _ _).trans (by simp only [ih] <;> rfl))
theorem limbs_ev (k : Nat) (a : List Int) : evM limbs_E limbs_h 3000 k [.code (bodyOf Try.f164)] (T0 0 [.ints .u64 a]) [] = limbs_b0 (limbs_L6 k) a := by
  refine (limbs_s0 _ a).trans ?_
  simp only [limbs_k k] <;> rfl

/-! ### plumb/plumbref04.words -/
def words_h : Nat → Option Head := hintOf [(6, ⟨[(0, .same), (3, .vec 36), (4, .same)], 1⟩)]
def words_b0 (l6 : List Int → Int → List Int → Option (List Int)) (a : List Int) : Option (List Int) :=
  l6 a 0 []
def words_b6 (l6 : List Int → Int → List Int → Option (List Int)) (t0 : List Int) (t4 : Int) (h0 : List Int) : Option (List Int) :=
  bif decide (t4 < (↑(List.length t0) : Int)) then
  bif inRange t4 (List.length t0) then
    bif decide (addI .i64 t4 1 < (↑(List.length t0) : Int)) then
      bif inRange (addI .i64 t4 1) (List.length t0) then
        bif decide ((↑(List.length (h0 ++ [orI .u64 (rdI t0 t4) (shlI .u64 (rdI t0 (addI .i64 t4 1)) 32)])) : Int) * 8 ≤ 140737488355328) then
          l6 t0 (addI .i64 t4 2) (h0 ++ [orI .u64 (rdI t0 t4) (shlI .u64 (rdI t0 (addI .i64 t4 1)) 32)])
        else none
      else none
    else bif decide ((↑(List.length (h0 ++ [rdI t0 t4])) : Int) * 8 ≤ 140737488355328) then l6 t0 (addI .i64 t4 2) (h0 ++ [rdI t0 t4]) else none
  else none
else Option.bind (cut4F h0) fun t => some t
mutual
def words_L6 : Nat → (List Int) → Int → (List Int) → Option (List Int)
  | 0, _, _, _ => none
  | k + 1, t0, t4, h0 => words_b6 (words_L6 k) t0 t4 h0
end
noncomputable def words_E : Env (dens [.sl (.int .u64)]) := envOf S.tab [(166, mkG [.c 36 (.int .u64)] [.o 36 (.int .u64)] cut4F)] Try.f156 [2] [.sl (.int .u64)]
theorem words_s0 (r : Rec (dens [.sl (.int .u64)])) (a : List Int) : evT words_E words_h r 3000 false [.code (bodyOf Try.f156)] (T0 0 [.ints .u64 a]) [] = words_b0 (fun t0 t4 h0 => r (todoOf 6 (bodyOf Try.f156)) [(0, AV.ints .u64 t0), (3, AV.vec (nat_lit 0) (nat_lit 1)), (4, AV.int .i64 t4)] [Blk.I (nat_lit 36) .u64 h0]) a := by kernel_rfl
theorem words_s6 (r : Rec (dens [.sl (.int .u64)])) (t0 : List Int) (t4 : Int) (h0 : List Int) : evT words_E words_h r 3000 true (todoOf 6 (bodyOf Try.f156)) [(0, AV.ints .u64 t0), (3, AV.vec (nat_lit 0) (nat_lit 1)), (4, AV.int .i64 t4)] [Blk.I (nat_lit 36) .u64 h0] = words_b6 (fun t0 t4 h0 => r (todoOf 6 (bodyOf Try.f156)) [(0, AV.ints .u64 t0), (3, AV.vec (nat_lit 0) (nat_lit 1)), (4, AV.int .i64 t4)] [Blk.I (nat_lit 36) .u64 h0]) t0 t4 h0 := by kernel_rfl
theorem words_k : ∀ k, (∀ (t0 : List Int) (t4 : Int) (h0 : List Int), evK words_E words_h 3000 k (todoOf 6 (bodyOf Try.f156)) [(0, AV.ints .u64 t0), (3, AV.vec (nat_lit 0) (nat_lit 1)), (4, AV.int .i64 t4)] [Blk.I (nat_lit 36) .u64 h0] = words_L6 k t0 t4 h0)
  | 0 => by
    refine ?_ <;> intros <;> rfl
  | k + 1 => by
    have ih := words_k k
    refine ?_ <;> intros
    · exact ((words_s6 _ _ _ _).trans (by simp only [ih] <;> rfl))
theorem words_ev (k : Nat) (a : List Int) : evM words_E words_h 3000 k [.code (bodyOf Try.f156)] (T0 0 [.ints .u64 a]) [] = words_b0 (words_L6 k) a := by
  refine (words_s0 _ a).trans ?_
  simp only [words_k k] <;> rfl

/-! ### plumb/plumbref04.put -/
def put_h : Nat → Option Head := hintOf [(4, ⟨[(0, .same), (1, .same), (2, .same), (7, .same)], 1⟩)]
def put_b0 (l4 : Int → Int → Int → List Int → Option (List Int)) (a : List Int) (b : Int) (c : Int) : Option (List Int) :=
  l4 b c 0 a
def put_b4 (l4 : Int → Int → Int → List Int → Option (List Int)) (t1 : Int) (t2 : Int) (t7 : Int) (h0 : List Int) : Option (List Int) :=
  bif decide (t7 < (↑(List.length h0) : Int)) then
  bif inRange t7 (List.length h0) then
    bif inRange t7 (List.length h0) then
      l4 t1 (shrI .u64 (addI .u64 (mulI .u64 (rdN h0 (Int.toNat t7)) t1) t2) 32) (addI .i64 t7 1)
        (wrI h0 (Int.toNat t7) (andI .u64 (addI .u64 (mulI .u64 (rdN h0 (Int.toNat t7)) t1) t2) 4294967295))
    else none
  else none
else bif decide (t2 > 0) then bif decide ((↑(List.length (h0 ++ [t2])) : Int) * 8 ≤ 140737488355328) then some (h0 ++ [t2]) else none else some h0
mutual
def put_L4 : Nat → Int → Int → Int → (List Int) → Option (List Int)
  | 0, _, _, _, _ => none
  | k + 1, t1, t2, t7, h0 => put_b4 (put_L4 k) t1 t2 t7 h0
end
noncomputable def put_E : Env (dens (gOuts [.c 36 (.int .u64), .v (.int .u64), .v (.int .u64)] [.o 36 (.int .u64)])) := envG S.tab [] Try.f155 [.tmp 6] [.c 36 (.int .u64), .v (.int .u64), .v (.int .u64)] [.o 36 (.int .u64)] [(6, .vec 36)]
theorem put_s0 (r : Rec (dens (gOuts [.c 36 (.int .u64), .v (.int .u64), .v (.int .u64)] [.o 36 (.int .u64)]))) (a : List Int) (b : Int) (c : Int) : evT put_E put_h r 3000 false [.code (bodyOf Try.f155)] (T0 0 [.vec 0 1, .int .u64 b, .int .u64 c]) [.I 36 .u64 a] = put_b0 (fun t1 t2 t7 h0 => r (todoOf 4 (bodyOf Try.f155)) [(0, AV.vec (nat_lit 0) (nat_lit 1)), (1, AV.int .u64 t1), (2, AV.int .u64 t2), (7, AV.int .i64 t7)] [Blk.I (nat_lit 36) .u64 h0]) a b c := by kernel_rfl
theorem put_s4 (r : Rec (dens (gOuts [.c 36 (.int .u64), .v (.int .u64), .v (.int .u64)] [.o 36 (.int .u64)]))) (t1 : Int) (t2 : Int) (t7 : Int) (h0 : List Int) : evT put_E put_h r 3000 true (todoOf 4 (bodyOf Try.f155)) [(0, AV.vec (nat_lit 0) (nat_lit 1)), (1, AV.int .u64 t1), (2, AV.int .u64 t2), (7, AV.int .i64 t7)] [Blk.I (nat_lit 36) .u64 h0] = put_b4 (fun t1 t2 t7 h0 => r (todoOf 4 (bodyOf Try.f155)) [(0, AV.vec (nat_lit 0) (nat_lit 1)), (1, AV.int .u64 t1), (2, AV.int .u64 t2), (7, AV.int .i64 t7)] [Blk.I (nat_lit 36) .u64 h0]) t1 t2 t7 h0 := by kernel_rfl
theorem put_k : ∀ k, (∀ (t1 : Int) (t2 : Int) (t7 : Int) (h0 : List Int), evK put_E put_h 3000 k (todoOf 4 (bodyOf Try.f155)) [(0, AV.vec (nat_lit 0) (nat_lit 1)), (1, AV.int .u64 t1), (2, AV.int .u64 t2), (7, AV.int .i64 t7)] [Blk.I (nat_lit 36) .u64 h0] = put_L4 k t1 t2 t7 h0)
  | 0 => by
    refine ?_ <;> intros <;> rfl
  | k + 1 => by
    have ih := put_k k
    refine ?_ <;> intros
    · exact ((put_s4 _ _ _ _ _).trans (by simp only [ih] <;> rfl))
theorem put_ev (k : Nat) (a : List Int) (b : Int) (c : Int) : evM put_E put_h 3000 k [.code (bodyOf Try.f155)] (T0 0 [.vec 0 1, .int .u64 b, .int .u64 c]) [.I 36 .u64 a] = put_b0 (put_L4 k) a b c := by
  refine (put_s0 _ a b c).trans ?_
  simp only [put_k k] <;> rfl

/-! ### plumb/plumbref04.take -/
def take4_h : Nat → Option Head := hintOf [(6, ⟨[(0, .same), (1, .same), (6, .same), (7, .same)], 1⟩)]
def take4_b0 (l6 : Int → Int → Int → List Int → Option (List Int × Int)) (a : List Int) (b : Int) : Option (List Int × Int) :=
  l6 b 0 (subI .i64 (↑(List.length a) : Int) 1) a
def take4_b6 (l6 : Int → Int → Int → List Int → Option (List Int × Int)) (t1 : Int) (t6 : Int) (t7 : Int) (h0 : List Int) : Option (List Int × Int) :=
  bif decide (t7 ≥ 0) then
  bif inRange t7 (List.length h0) then
    bif !decide (t1 = 0) then
      bif inRange t7 (List.length h0) then
        bif !decide (t1 = 0) then
          l6 t1 (remI (orI .u64 (shlI .u64 t6 32) (rdN h0 (Int.toNat t7))) t1) (subI .i64 t7 1)
            (wrI h0 (Int.toNat t7) (divI .u64 (orI .u64 (shlI .u64 t6 32) (rdN h0 (Int.toNat t7))) t1))
        else none
      else none
    else none
  else none
else Option.bind (cut4F h0) fun t => some (t, t6)
mutual
def take4_L6 : Nat → Int → Int → Int → (List Int) → Option (List Int × Int)
  | 0, _, _, _, _ => none
  | k + 1, t1, t6, t7, h0 => take4_b6 (take4_L6 k) t1 t6 t7 h0
end
noncomputable def take4_E : Env (dens (gOuts [.c 36 (.int .u64), .v (.int .u64)] [.o 36 (.int .u64), .v (.int .u64)])) := envG S.tab [(166, mkG [.c 36 (.int .u64)] [.o 36 (.int .u64)] cut4F)] Try.f165 [.tmp 4, .tmp 5] [.c 36 (.int .u64), .v (.int .u64)] [.o 36 (.int .u64), .v (.int .u64)] [(4, .vec 36)]
theorem take4_s0 (r : Rec (dens (gOuts [.c 36 (.int .u64), .v (.int .u64)] [.o 36 (.int .u64), .v (.int .u64)]))) (a : List Int) (b : Int) : evT take4_E take4_h r 3000 false [.code (bodyOf Try.f165)] (T0 0 [.vec 0 1, .int .u64 b]) [.I 36 .u64 a] = take4_b0 (fun t1 t6 t7 h0 => r (todoOf 6 (bodyOf Try.f165)) [(0, AV.vec (nat_lit 0) (nat_lit 1)), (1, AV.int .u64 t1), (6, AV.int .u64 t6), (7, AV.int .i64 t7)] [Blk.I (nat_lit 36) .u64 h0]) a b := by kernel_rfl
theorem take4_s6 (r : Rec (dens (gOuts [.c 36 (.int .u64), .v (.int .u64)] [.o 36 (.int .u64), .v (.int .u64)]))) (t1 : Int) (t6 : Int) (t7 : Int) (h0 : List Int) : evT take4_E take4_h r 3000 true (todoOf 6 (bodyOf Try.f165)) [(0, AV.vec (nat_lit 0) (nat_lit 1)), (1, AV.int .u64 t1), (6, AV.int .u64 t6), (7, AV.int .i64 t7)] [Blk.I (nat_lit 36) .u64 h0] = take4_b6 (fun t1 t6 t7 h0 => r (todoOf 6 (bodyOf Try.f165)) [(0, AV.vec (nat_lit 0) (nat_lit 1)), (1, AV.int .u64 t1), (6, AV.int .u64 t6), (7, AV.int .i64 t7)] [Blk.I (nat_lit 36) .u64 h0]) t1 t6 t7 h0 := by kernel_rfl
theorem take4_k : ∀ k, (∀ (t1 : Int) (t6 : Int) (t7 : Int) (h0 : List Int), evK take4_E take4_h 3000 k (todoOf 6 (bodyOf Try.f165)) [(0, AV.vec (nat_lit 0) (nat_lit 1)), (1, AV.int .u64 t1), (6, AV.int .u64 t6), (7, AV.int .i64 t7)] [Blk.I (nat_lit 36) .u64 h0] = take4_L6 k t1 t6 t7 h0)
  | 0 => by
    refine ?_ <;> intros <;> rfl
  | k + 1 => by
    have ih := take4_k k
    refine ?_ <;> intros
    · exact ((take4_s6 _ _ _ _ _).trans (by simp only [ih] <;> rfl))
theorem take4_ev (k : Nat) (a : List Int) (b : Int) : evM take4_E take4_h 3000 k [.code (bodyOf Try.f165)] (T0 0 [.vec 0 1, .int .u64 b]) [.I 36 .u64 a] = take4_b0 (take4_L6 k) a b := by
  refine (take4_s0 _ a b).trans ?_
  simp only [take4_k k] <;> rfl

/-! ### plumb/plumbref04.step -/
def step4_h : Nat → Option Head := hintOf [(6, ⟨[(0, .same), (4, .same), (5, .same)], 0⟩)]
def step4_b0 (l6 : Int → Int → Int → Option (Int × Int)) (a : Int) : Option (Int × Int) :=
  l6 a (cvI .u64 a) 1
def step4_b6 (l6 : Int → Int → Int → Option (Int × Int)) (t0 : Int) (t4 : Int) (t5 : Int) : Option (Int × Int) :=
  bif decide (mulI .u64 t4 (cvI .u64 t0) < 4294967296) then l6 t0 (mulI .u64 t4 (cvI .u64 t0)) (addI .i64 t5 1) else some (t4, t5)
mutual
def step4_L6 : Nat → Int → Int → Int → Option (Int × Int)
  | 0, _, _, _ => none
  | k + 1, t0, t4, t5 => step4_b6 (step4_L6 k) t0 t4 t5
end
noncomputable def step4_E : Env (dens [.int .u64, .int .i64]) := envOf S.tab [] Try.f163 [2, 3] [.int .u64, .int .i64]
theorem step4_s0 (r : Rec (dens [.int .u64, .int .i64])) (a : Int) : evT step4_E step4_h r 3000 false [.code (bodyOf Try.f163)] (T0 0 [.int .i64 a]) [] = step4_b0 (fun t0 t4 t5 => r (todoOf 6 (bodyOf Try.f163)) [(0, AV.int .i64 t0), (4, AV.int .u64 t4), (5, AV.int .i64 t5)] []) a := by kernel_rfl
theorem step4_s6 (r : Rec (dens [.int .u64, .int .i64])) (t0 : Int) (t4 : Int) (t5 : Int) : evT step4_E step4_h r 3000 true (todoOf 6 (bodyOf Try.f163)) [(0, AV.int .i64 t0), (4, AV.int .u64 t4), (5, AV.int .i64 t5)] [] = step4_b6 (fun t0 t4 t5 => r (todoOf 6 (bodyOf Try.f163)) [(0, AV.int .i64 t0), (4, AV.int .u64 t4), (5, AV.int .i64 t5)] []) t0 t4 t5 := by kernel_rfl
theorem step4_k : ∀ k, (∀ (t0 : Int) (t4 : Int) (t5 : Int), evK step4_E step4_h 3000 k (todoOf 6 (bodyOf Try.f163)) [(0, AV.int .i64 t0), (4, AV.int .u64 t4), (5, AV.int .i64 t5)] [] = step4_L6 k t0 t4 t5)
  | 0 => by
    refine ?_ <;> intros <;> rfl
  | k + 1 => by
    have ih := step4_k k
    refine ?_ <;> intros
    · exact ((step4_s6 _ _ _ _).trans (by simp only [ih] <;> rfl))
theorem step4_ev (k : Nat) (a : Int) : evM step4_E step4_h 3000 k [.code (bodyOf Try.f163)] (T0 0 [.int .i64 a]) [] = step4_b0 (step4_L6 k) a := by
  refine (step4_s0 _ a).trans ?_
  simp only [step4_k k] <;> rfl

/-! ### plumb/plumbref04.Text -/
def Text4_h : Nat → Option Head := hintOf [(18, ⟨[(1, .same), (6, .same), (7, .same), (8, .same), (9, .same), (10, .vec 5)], 2⟩), (26, ⟨[(1, .same), (6, .same), (7, .same), (8, .same), (9, .same), (10, .vec 5), (11, .same), (12, .same)], 3⟩), (34, ⟨[(10, .vec 5)], 2⟩), (44, ⟨[(10, .same), (13, .same)], 2⟩)]
def Text4_b0 (l18 : Int → ByteArray → Int → Int → List Int → List Int → Option (ByteArray × Int)) (l26 : Int → ByteArray → Int → Int → Int → Int → List Int → List Int → Option (ByteArray × Int)) (l34 : List Int → List Int → Option (ByteArray × Int)) (l44 : Int → List Int → List Int → Option (ByteArray × Int)) (a : List Int) (b : Int) : Option (ByteArray × Int) :=
  bif decide (b < 2) then some (strOfI [], 40)
else
  bif decide (b > 36) then some (strOfI [], 40)
  else
    Option.bind (tooLongF a) fun t =>
      bif t then some (strOfI [], 21)
      else
        Option.bind (step4F b) fun t =>
          Option.bind (limbsF a) fun t_1 =>
            l18 b
              (strOfI
                [48, 49, 50, 51, 52, 53, 54, 55, 56, 57, 97, 98, 99, 100, 101,
                  102, 103, 104, 105, 106, 107, 108, 109, 110, 111, 112, 113, 114, 115,
                  116, 117, 118, 119, 120, 121, 122])
              t.1 t.2 t_1 []
def Text4_b18 (l18 : Int → ByteArray → Int → Int → List Int → List Int → Option (ByteArray × Int)) (l26 : Int → ByteArray → Int → Int → Int → Int → List Int → List Int → Option (ByteArray × Int)) (l34 : List Int → List Int → Option (ByteArray × Int)) (l44 : Int → List Int → List Int → Option (ByteArray × Int)) (t1 : Int) (t6 : ByteArray) (t7 : Int) (t8 : Int) (h0 : List Int) (h1 : List Int) : Option (ByteArray × Int) :=
  bif decide ((↑(List.length h0) : Int) > 0) then Option.bind (take4F (h0, t7)) fun t => l26 t1 t6 t7 t8 t.2 0 h1 t.1 else l34 h0 h1
def Text4_b26 (l18 : Int → ByteArray → Int → Int → List Int → List Int → Option (ByteArray × Int)) (l26 : Int → ByteArray → Int → Int → Int → Int → List Int → List Int → Option (ByteArray × Int)) (l34 : List Int → List Int → Option (ByteArray × Int)) (l44 : Int → List Int → List Int → Option (ByteArray × Int)) (t1 : Int) (t6 : ByteArray) (t7 : Int) (t8 : Int) (t11 : Int) (t12 : Int) (h1 : List Int) (h2 : List Int) : Option (ByteArray × Int) :=
  bif decide (t12 < t8) then
  bif !decide (cvI .u64 t1 = 0) then
    bif inRange (cvI .i64 (remI t11 (cvI .u64 t1))) (ByteArray.size t6) then
      bif decide ((↑(List.length (h1 ++ [byteAt t6 (cvI .i64 (remI t11 (cvI .u64 t1)))])) : Int) * 1 ≤ 140737488355328) then
        bif !decide (cvI .u64 t1 = 0) then
          l26 t1 t6 t7 t8 (divI .u64 t11 (cvI .u64 t1)) (addI .i64 t12 1) (h1 ++ [byteAt t6 (cvI .i64 (remI t11 (cvI .u64 t1)))]) h2
        else none
      else none
    else none
  else none
else l18 t1 t6 t7 t8 h2 h1
def Text4_b34 (l18 : Int → ByteArray → Int → Int → List Int → List Int → Option (ByteArray × Int)) (l26 : Int → ByteArray → Int → Int → Int → Int → List Int → List Int → Option (ByteArray × Int)) (l34 : List Int → List Int → Option (ByteArray × Int)) (l44 : Int → List Int → List Int → Option (ByteArray × Int)) (h0 : List Int) (h1 : List Int) : Option (ByteArray × Int) :=
  bif decide ((↑(List.length h1) : Int) > 0) then
  bif inRange (subI .i64 (↑(List.length h1) : Int) 1) (List.length h1) then
    bif decide (rdN h1 (Int.toNat (subI .i64 (↑(List.length h1) : Int) 1)) = 48) then
      bif bif decide (0 ≤ subI .i64 (↑(List.length h1) : Int) 1) then decide (subI .i64 (↑(List.length h1) : Int) 1 ≤ (↑(List.length h1) : Int)) else false then
        l34 h0 (List.take (Int.toNat (subI .i64 (↑(List.length h1) : Int) 1 - 0)) h1)
      else none
    else bif decide ((↑(List.length h1) : Int) = 0) then some (strOfI [48], 0) else l44 0 h0 h1
  else none
else bif decide ((↑(List.length h1) : Int) = 0) then some (strOfI [48], 0) else l44 0 h0 h1
def Text4_b44 (l18 : Int → ByteArray → Int → Int → List Int → List Int → Option (ByteArray × Int)) (l26 : Int → ByteArray → Int → Int → Int → Int → List Int → List Int → Option (ByteArray × Int)) (l34 : List Int → List Int → Option (ByteArray × Int)) (l44 : Int → List Int → List Int → Option (ByteArray × Int)) (t13 : Int) (h0 : List Int) (h1 : List Int) : Option (ByteArray × Int) :=
  bif decide (t13 < divI .i64 (↑(List.length h1) : Int) 2) then
  bif inRange t13 (List.length h1) then
    bif inRange (subI .i64 (subI .i64 (↑(List.length h1) : Int) 1) t13) (List.length h1) then
      bif inRange t13 (List.length h1) then
        bif
            inRange (subI .i64 (subI .i64 (↑(List.length h1) : Int) 1) t13)
              (List.length (wrI h1 (Int.toNat t13) (rdN h1 (Int.toNat (subI .i64 (subI .i64 (↑(List.length h1) : Int) 1) t13))))) then
          l44 (addI .i64 t13 1) h0
            (wrI (wrI h1 (Int.toNat t13) (rdN h1 (Int.toNat (subI .i64 (subI .i64 (↑(List.length h1) : Int) 1) t13))))
              (Int.toNat (subI .i64 (subI .i64 (↑(List.length h1) : Int) 1) t13)) (rdN h1 (Int.toNat t13)))
        else none
      else none
    else none
  else none
else some (strOfI h1, 0)
mutual
def Text4_L18 : Nat → Int → ByteArray → Int → Int → (List Int) → (List Int) → Option (ByteArray × Int)
  | 0, _, _, _, _, _, _ => none
  | k + 1, t1, t6, t7, t8, h0, h1 => Text4_b18 (Text4_L18 k) (Text4_L26 k) (Text4_L34 k) (Text4_L44 k) t1 t6 t7 t8 h0 h1
def Text4_L26 : Nat → Int → ByteArray → Int → Int → Int → Int → (List Int) → (List Int) → Option (ByteArray × Int)
  | 0, _, _, _, _, _, _, _, _ => none
  | k + 1, t1, t6, t7, t8, t11, t12, h1, h2 => Text4_b26 (Text4_L18 k) (Text4_L26 k) (Text4_L34 k) (Text4_L44 k) t1 t6 t7 t8 t11 t12 h1 h2
def Text4_L34 : Nat → (List Int) → (List Int) → Option (ByteArray × Int)
  | 0, _, _ => none
  | k + 1, h0, h1 => Text4_b34 (Text4_L18 k) (Text4_L26 k) (Text4_L34 k) (Text4_L44 k) h0 h1
def Text4_L44 : Nat → Int → (List Int) → (List Int) → Option (ByteArray × Int)
  | 0, _, _, _ => none
  | k + 1, t13, h0, h1 => Text4_b44 (Text4_L18 k) (Text4_L26 k) (Text4_L34 k) (Text4_L44 k) t13 h0 h1
end
noncomputable def Text4_E : Env (dens [.str, .int .i64]) := envOf S.tab [(162, mkF [.sl (.int .u64)] [.bool] tooLongF), (163, mkF [.int .i64] [.int .u64, .int .i64] step4F), (164, mkG [.v (.sl (.int .u64))] [.o 36 (.int .u64)] limbsF), (165, mkG [.c 36 (.int .u64), .v (.int .u64)] [.o 36 (.int .u64), .v (.int .u64)] take4F)] Try.f154 [4, 5] [.str, .int .i64]
theorem Text4_s0 (r : Rec (dens [.str, .int .i64])) (a : List Int) (b : Int) : evT Text4_E Text4_h r 3000 false [.code (bodyOf Try.f154)] (T0 0 [.ints .u64 a, .int .i64 b]) [] = Text4_b0 (fun t1 t6 t7 t8 h0 h1 => r (todoOf 18 (bodyOf Try.f154)) [(1, AV.int .i64 t1), (6, AV.str t6), (7, AV.int .u64 t7), (8, AV.int .i64 t8), (9, AV.vec (nat_lit 0) (nat_lit 1)),
  (10, AV.vec (nat_lit 1) (nat_lit 1))] [Blk.I (nat_lit 36) .u64 h0, Blk.I (nat_lit 5) .u8 h1]) (fun t1 t6 t7 t8 t11 t12 h1 h2 => r (todoOf 26 (bodyOf Try.f154)) [(1, AV.int .i64 t1), (6, AV.str t6), (7, AV.int .u64 t7), (8, AV.int .i64 t8), (9, AV.vec (Nat.succ (nat_lit 1)) (nat_lit 1)),
  (10, AV.vec (nat_lit 1) (nat_lit 1)), (11, AV.int .u64 t11), (12, AV.int .i64 t12)] [Blk.dead, Blk.I (nat_lit 5) .u8 h1, Blk.I (nat_lit 36) .u64 h2]) (fun h0 h1 => r (todoOf 34 (bodyOf Try.f154)) [(10, AV.vec (nat_lit 1) (nat_lit 1))] [Blk.I (nat_lit 36) .u64 h0, Blk.I (nat_lit 5) .u8 h1]) (fun t13 h0 h1 => r (todoOf 44 (bodyOf Try.f154)) [(10, AV.vec (nat_lit 1) (nat_lit 1)), (13, AV.int .i64 t13)] [Blk.I (nat_lit 36) .u64 h0, Blk.I (nat_lit 5) .u8 h1]) a b := by kernel_rfl
theorem Text4_s18 (r : Rec (dens [.str, .int .i64])) (t1 : Int) (t6 : ByteArray) (t7 : Int) (t8 : Int) (h0 : List Int) (h1 : List Int) : evT Text4_E Text4_h r 3000 true (todoOf 18 (bodyOf Try.f154)) [(1, AV.int .i64 t1), (6, AV.str t6), (7, AV.int .u64 t7), (8, AV.int .i64 t8), (9, AV.vec (nat_lit 0) (nat_lit 1)),
  (10, AV.vec (nat_lit 1) (nat_lit 1))] [Blk.I (nat_lit 36) .u64 h0, Blk.I (nat_lit 5) .u8 h1] = Text4_b18 (fun t1 t6 t7 t8 h0 h1 => r (todoOf 18 (bodyOf Try.f154)) [(1, AV.int .i64 t1), (6, AV.str t6), (7, AV.int .u64 t7), (8, AV.int .i64 t8), (9, AV.vec (nat_lit 0) (nat_lit 1)),
  (10, AV.vec (nat_lit 1) (nat_lit 1))] [Blk.I (nat_lit 36) .u64 h0, Blk.I (nat_lit 5) .u8 h1]) (fun t1 t6 t7 t8 t11 t12 h1 h2 => r (todoOf 26 (bodyOf Try.f154)) [(1, AV.int .i64 t1), (6, AV.str t6), (7, AV.int .u64 t7), (8, AV.int .i64 t8), (9, AV.vec (Nat.succ (nat_lit 1)) (nat_lit 1)),
  (10, AV.vec (nat_lit 1) (nat_lit 1)), (11, AV.int .u64 t11), (12, AV.int .i64 t12)] [Blk.dead, Blk.I (nat_lit 5) .u8 h1, Blk.I (nat_lit 36) .u64 h2]) (fun h0 h1 => r (todoOf 34 (bodyOf Try.f154)) [(10, AV.vec (nat_lit 1) (nat_lit 1))] [Blk.I (nat_lit 36) .u64 h0, Blk.I (nat_lit 5) .u8 h1]) (fun t13 h0 h1 => r (todoOf 44 (bodyOf Try.f154)) [(10, AV.vec (nat_lit 1) (nat_lit 1)), (13, AV.int .i64 t13)] [Blk.I (nat_lit 36) .u64 h0, Blk.I (nat_lit 5) .u8 h1]) t1 t6 t7 t8 h0 h1 := by kernel_rfl
theorem Text4_s26 (r : Rec (dens [.str, .int .i64])) (t1 : Int) (t6 : ByteArray) (t7 : Int) (t8 : Int) (t11 : Int) (t12 : Int) (h1 : List Int) (h2 : List Int) : evT Text4_E Text4_h r 3000 true (todoOf 26 (bodyOf Try.f154)) [(1, AV.int .i64 t1), (6, AV.str t6), (7, AV.int .u64 t7), (8, AV.int .i64 t8), (9, AV.vec (Nat.succ (nat_lit 1)) (nat_lit 1)),
  (10, AV.vec (nat_lit 1) (nat_lit 1)), (11, AV.int .u64 t11), (12, AV.int .i64 t12)] [Blk.dead, Blk.I (nat_lit 5) .u8 h1, Blk.I (nat_lit 36) .u64 h2] = Text4_b26 (fun t1 t6 t7 t8 h0 h1 => r (todoOf 18 (bodyOf Try.f154)) [(1, AV.int .i64 t1), (6, AV.str t6), (7, AV.int .u64 t7), (8, AV.int .i64 t8), (9, AV.vec (nat_lit 0) (nat_lit 1)),
  (10, AV.vec (nat_lit 1) (nat_lit 1))] [Blk.I (nat_lit 36) .u64 h0, Blk.I (nat_lit 5) .u8 h1]) (fun t1 t6 t7 t8 t11 t12 h1 h2 => r (todoOf 26 (bodyOf Try.f154)) [(1, AV.int .i64 t1), (6, AV.str t6), (7, AV.int .u64 t7), (8, AV.int .i64 t8), (9, AV.vec (Nat.succ (nat_lit 1)) (nat_lit 1)),
  (10, AV.vec (nat_lit 1) (nat_lit 1)), (11, AV.int .u64 t11), (12, AV.int .i64 t12)] [Blk.dead, Blk.I (nat_lit 5) .u8 h1, Blk.I (nat_lit 36) .u64 h2]) (fun h0 h1 => r (todoOf 34 (bodyOf Try.f154)) [(10, AV.vec (nat_lit 1) (nat_lit 1))] [Blk.I (nat_lit 36) .u64 h0, Blk.I (nat_lit 5) .u8 h1]) (fun t13 h0 h1 => r (todoOf 44 (bodyOf Try.f154)) [(10, AV.vec (nat_lit 1) (nat_lit 1)), (13, AV.int .i64 t13)] [Blk.I (nat_lit 36) .u64 h0, Blk.I (nat_lit 5) .u8 h1]) t1 t6 t7 t8 t11 t12 h1 h2 := by kernel_rfl
theorem Text4_s34 (r : Rec (dens [.str, .int .i64])) (h0 : List Int) (h1 : List Int) : evT Text4_E Text4_h r 3000 true (todoOf 34 (bodyOf Try.f154)) [(10, AV.vec (nat_lit 1) (nat_lit 1))] [Blk.I (nat_lit 36) .u64 h0, Blk.I (nat_lit 5) .u8 h1] = Text4_b34 (fun t1 t6 t7 t8 h0 h1 => r (todoOf 18 (bodyOf Try.f154)) [(1, AV.int .i64 t1), (6, AV.str t6), (7, AV.int .u64 t7), (8, AV.int .i64 t8), (9, AV.vec (nat_lit 0) (nat_lit 1)),
  (10, AV.vec (nat_lit 1) (nat_lit 1))] [Blk.I (nat_lit 36) .u64 h0, Blk.I (nat_lit 5) .u8 h1]) (fun t1 t6 t7 t8 t11 t12 h1 h2 => r (todoOf 26 (bodyOf Try.f154)) [(1, AV.int .i64 t1), (6, AV.str t6), (7, AV.int .u64 t7), (8, AV.int .i64 t8), (9, AV.vec (Nat.succ (nat_lit 1)) (nat_lit 1)),
  (10, AV.vec (nat_lit 1) (nat_lit 1)), (11, AV.int .u64 t11), (12, AV.int .i64 t12)] [Blk.dead, Blk.I (nat_lit 5) .u8 h1, Blk.I (nat_lit 36) .u64 h2]) (fun h0 h1 => r (todoOf 34 (bodyOf Try.f154)) [(10, AV.vec (nat_lit 1) (nat_lit 1))] [Blk.I (nat_lit 36) .u64 h0, Blk.I (nat_lit 5) .u8 h1]) (fun t13 h0 h1 => r (todoOf 44 (bodyOf Try.f154)) [(10, AV.vec (nat_lit 1) (nat_lit 1)), (13, AV.int .i64 t13)] [Blk.I (nat_lit 36) .u64 h0, Blk.I (nat_lit 5) .u8 h1]) h0 h1 := by kernel_rfl
theorem Text4_s44 (r : Rec (dens [.str, .int .i64])) (t13 : Int) (h0 : List Int) (h1 : List Int) : evT Text4_E Text4_h r 3000 true (todoOf 44 (bodyOf Try.f154)) [(10, AV.vec (nat_lit 1) (nat_lit 1)), (13, AV.int .i64 t13)] [Blk.I (nat_lit 36) .u64 h0, Blk.I (nat_lit 5) .u8 h1] = Text4_b44 (fun t1 t6 t7 t8 h0 h1 => r (todoOf 18 (bodyOf Try.f154)) [(1, AV.int .i64 t1), (6, AV.str t6), (7, AV.int .u64 t7), (8, AV.int .i64 t8), (9, AV.vec (nat_lit 0) (nat_lit 1)),
  (10, AV.vec (nat_lit 1) (nat_lit 1))] [Blk.I (nat_lit 36) .u64 h0, Blk.I (nat_lit 5) .u8 h1]) (fun t1 t6 t7 t8 t11 t12 h1 h2 => r (todoOf 26 (bodyOf Try.f154)) [(1, AV.int .i64 t1), (6, AV.str t6), (7, AV.int .u64 t7), (8, AV.int .i64 t8), (9, AV.vec (Nat.succ (nat_lit 1)) (nat_lit 1)),
  (10, AV.vec (nat_lit 1) (nat_lit 1)), (11, AV.int .u64 t11), (12, AV.int .i64 t12)] [Blk.dead, Blk.I (nat_lit 5) .u8 h1, Blk.I (nat_lit 36) .u64 h2]) (fun h0 h1 => r (todoOf 34 (bodyOf Try.f154)) [(10, AV.vec (nat_lit 1) (nat_lit 1))] [Blk.I (nat_lit 36) .u64 h0, Blk.I (nat_lit 5) .u8 h1]) (fun t13 h0 h1 => r (todoOf 44 (bodyOf Try.f154)) [(10, AV.vec (nat_lit 1) (nat_lit 1)), (13, AV.int .i64 t13)] [Blk.I (nat_lit 36) .u64 h0, Blk.I (nat_lit 5) .u8 h1]) t13 h0 h1 := by kernel_rfl
theorem Text4_k : ∀ k, (∀ (t1 : Int) (t6 : ByteArray) (t7 : Int) (t8 : Int) (h0 : List Int) (h1 : List Int), evK Text4_E Text4_h 3000 k (todoOf 18 (bodyOf Try.f154)) [(1, AV.int .i64 t1), (6, AV.str t6), (7, AV.int .u64 t7), (8, AV.int .i64 t8), (9, AV.vec (nat_lit 0) (nat_lit 1)),
  (10, AV.vec (nat_lit 1) (nat_lit 1))] [Blk.I (nat_lit 36) .u64 h0, Blk.I (nat_lit 5) .u8 h1] = Text4_L18 k t1 t6 t7 t8 h0 h1) ∧ (∀ (t1 : Int) (t6 : ByteArray) (t7 : Int) (t8 : Int) (t11 : Int) (t12 : Int) (h1 : List Int) (h2 : List Int), evK Text4_E Text4_h 3000 k (todoOf 26 (bodyOf Try.f154)) [(1, AV.int .i64 t1), (6, AV.str t6), (7, AV.int .u64 t7), (8, AV.int .i64 t8), (9, AV.vec (Nat.succ (nat_lit 1)) (nat_lit 1)),
  (10, AV.vec (nat_lit 1) (nat_lit 1)), (11, AV.int .u64 t11), (12, AV.int .i64 t12)] [Blk.dead, Blk.I (nat_lit 5) .u8 h1, Blk.I (nat_lit 36) .u64 h2] = Text4_L26 k t1 t6 t7 t8 t11 t12 h1 h2) ∧ (∀ (h0 : List Int) (h1 : List Int), evK Text4_E Text4_h 3000 k (todoOf 34 (bodyOf Try.f154)) [(10, AV.vec (nat_lit 1) (nat_lit 1))] [Blk.I (nat_lit 36) .u64 h0, Blk.I (nat_lit 5) .u8 h1] = Text4_L34 k h0 h1) ∧ (∀ (t13 : Int) (h0 : List Int) (h1 : List Int), evK Text4_E Text4_h 3000 k (todoOf 44 (bodyOf Try.f154)) [(10, AV.vec (nat_lit 1) (nat_lit 1)), (13, AV.int .i64 t13)] [Blk.I (nat_lit 36) .u64 h0, Blk.I (nat_lit 5) .u8 h1] = Text4_L44 k t13 h0 h1)
  | 0 => by
    refine ⟨?_, ?_, ?_, ?_⟩ <;> intros <;> rfl
  | k + 1 => by
    have ih := Text4_k k
    refine ⟨?_, ?_, ?_, ?_⟩ <;> intros
    · exact ((Text4_s18 _ _ _ _ _ _ _).trans (by simp only [ih] <;> rfl))
    · exact ((Text4_s26 _ _ _ _ _ _ _ _ _).trans (by simp only [ih] <;> rfl))
    · exact ((Text4_s34 _ _ _).trans (by simp only [ih] <;> rfl))
    · exact ((Text4_s44 _ _ _ _).trans (by simp only [ih] <;> rfl))
theorem Text4_ev (k : Nat) (a : List Int) (b : Int) : evM Text4_E Text4_h 3000 k [.code (bodyOf Try.f154)] (T0 0 [.ints .u64 a, .int .i64 b]) [] = Text4_b0 (Text4_L18 k) (Text4_L26 k) (Text4_L34 k) (Text4_L44 k) a b := by
  refine (Text4_s0 _ a b).trans ?_
  simp only [Text4_k k] <;> rfl

/-! ### plumb/plumbref04.Power -/
def Power4_h : Nat → Option Head := hintOf [(6, ⟨[(0, .same), (1, .same), (5, .vec 36), (6, .same)], 1⟩)]
def Power4_b0 (l6 : Int → Int → Int → List Int → Option (List Int)) (a : Int) (b : Int) : Option (List Int) :=
  l6 a b 0 [1]
def Power4_b6 (l6 : Int → Int → Int → List Int → Option (List Int)) (t0 : Int) (t1 : Int) (t6 : Int) (h0 : List Int) : Option (List Int) :=
  bif decide (t6 < t1) then Option.bind (putF (h0, t0, 0)) fun t => l6 t0 t1 (addI .i64 t6 1) t else Option.bind (wordsF h0) fun t => some t
mutual
def Power4_L6 : Nat → Int → Int → Int → (List Int) → Option (List Int)
  | 0, _, _, _, _ => none
  | k + 1, t0, t1, t6, h0 => Power4_b6 (Power4_L6 k) t0 t1 t6 h0
end
noncomputable def Power4_E : Env (dens [.sl (.int .u64)]) := envOf S.tab [(155, mkG [.c 36 (.int .u64), .v (.int .u64), .v (.int .u64)] [.o 36 (.int .u64)] putF), (156, mkF [.sl (.int .u64)] [.sl (.int .u64)] wordsF)] Try.f146 [4] [.sl (.int .u64)]
theorem Power4_s0 (r : Rec (dens [.sl (.int .u64)])) (a : Int) (b : Int) : evT Power4_E Power4_h r 3000 false [.code (bodyOf Try.f146)] (T0 0 [.int .u64 a, .int .i64 b]) [] = Power4_b0 (fun t0 t1 t6 h0 => r (todoOf 6 (bodyOf Try.f146)) [(0, AV.int .u64 t0), (1, AV.int .i64 t1), (5, AV.vec (nat_lit 0) (nat_lit 1)), (6, AV.int .i64 t6)] [Blk.I (nat_lit 36) .u64 h0]) a b := by kernel_rfl
theorem Power4_s6 (r : Rec (dens [.sl (.int .u64)])) (t0 : Int) (t1 : Int) (t6 : Int) (h0 : List Int) : evT Power4_E Power4_h r 3000 true (todoOf 6 (bodyOf Try.f146)) [(0, AV.int .u64 t0), (1, AV.int .i64 t1), (5, AV.vec (nat_lit 0) (nat_lit 1)), (6, AV.int .i64 t6)] [Blk.I (nat_lit 36) .u64 h0] = Power4_b6 (fun t0 t1 t6 h0 => r (todoOf 6 (bodyOf Try.f146)) [(0, AV.int .u64 t0), (1, AV.int .i64 t1), (5, AV.vec (nat_lit 0) (nat_lit 1)), (6, AV.int .i64 t6)] [Blk.I (nat_lit 36) .u64 h0]) t0 t1 t6 h0 := by kernel_rfl
theorem Power4_k : ∀ k, (∀ (t0 : Int) (t1 : Int) (t6 : Int) (h0 : List Int), evK Power4_E Power4_h 3000 k (todoOf 6 (bodyOf Try.f146)) [(0, AV.int .u64 t0), (1, AV.int .i64 t1), (5, AV.vec (nat_lit 0) (nat_lit 1)), (6, AV.int .i64 t6)] [Blk.I (nat_lit 36) .u64 h0] = Power4_L6 k t0 t1 t6 h0)
  | 0 => by
    refine ?_ <;> intros <;> rfl
  | k + 1 => by
    have ih := Power4_k k
    refine ?_ <;> intros
    · exact ((Power4_s6 _ _ _ _ _).trans (by simp only [ih] <;> rfl))
theorem Power4_ev (k : Nat) (a : Int) (b : Int) : evM Power4_E Power4_h 3000 k [.code (bodyOf Try.f146)] (T0 0 [.int .u64 a, .int .i64 b]) [] = Power4_b0 (Power4_L6 k) a b := by
  refine (Power4_s0 _ a b).trans ?_
  simp only [Power4_k k] <;> rfl

/-! ### plumb/plumbref04.Count -/
def Count4_h : Nat → Option Head := hintOf []
def Count4_b0  (a : List Int) : Option (Int) :=
  Option.bind (Text4F (a, 10)) fun t => some (↑(ByteArray.size t.1) : Int)
noncomputable def Count4_E : Env (dens [.int .i64]) := envOf S.tab [(154, mkF [.sl (.int .u64), .int .i64] [.str, .int .i64] Text4F)] Try.f145 [2] [.int .i64]
theorem Count4_s0 (r : Rec (dens [.int .i64])) (a : List Int) : evT Count4_E Count4_h r 3000 false [.code (bodyOf Try.f145)] (T0 0 [.ints .u64 a]) [] = Count4_b0  a := by kernel_rfl
theorem Count4_ev (k : Nat) (a : List Int) : evM Count4_E Count4_h 3000 k [.code (bodyOf Try.f145)] (T0 0 [.ints .u64 a]) [] = Count4_b0  a := by
  exact Count4_s0 _ a

/-! ### plumb/plumbref08.in -/
def in4_h : Nat → Option Head := hintOf []
def in4_b0  (a : Int) : Option (Bool) :=
  bif decide (a ≥ (-348 : Int)) then some (decide (a ≤ 347)) else some false
noncomputable def in4_E : Env (dens [.bool]) := envOf S.tab [] Try.f143 [2] [.bool]
theorem in4_s0 (r : Rec (dens [.bool])) (a : Int) : evT in4_E in4_h r 3000 false [.code (bodyOf Try.f143)] (T0 0 [.int .i64 a]) [] = in4_b0  a := by kernel_rfl
theorem in4_ev (k : Nat) (a : Int) : evM in4_E in4_h 3000 k [.code (bodyOf Try.f143)] (T0 0 [.int .i64 a]) [] = in4_b0  a := by
  exact in4_s0 _ a

/-! ### plumb/plumbref08.frame -/
def frame_h : Nat → Option Head := hintOf []
def frame_b0  (a : Int) : Option (List Int × Int) :=
  bif decide (a ≥ 0) then
  Option.bind (Power4F (5, a)) fun t =>
    Option.bind (r3BitsF t) fun t_1 =>
      bif decide (subI .i64 t_1 128 ≤ 0) then
        Option.bind (r3ShlF (t, subI .i64 0 (subI .i64 t_1 128))) fun t => some (t, subI .i64 t_1 128)
      else Option.bind (r3ShlF ([1], subI .i64 t_1 128)) fun t_2 => Option.bind (r3DivModF (t, t_2)) fun t => some (t.1, subI .i64 t_1 128)
else
  Option.bind (Power4F (5, subI .i64 0 a)) fun t =>
    Option.bind (r3BitsF t) fun t_1 =>
      Option.bind (r3ShlF ([1], addI .i64 t_1 127)) fun t_2 =>
        Option.bind (r3DivModF (t_2, t)) fun t => some (t.1, subI .i64 0 (addI .i64 t_1 127))
noncomputable def frame_E : Env (dens [.sl (.int .u64), .int .i64]) := envOf S.tab [(146, mkF [.int .u64, .int .i64] [.sl (.int .u64)] Power4F), (118, mkF [.sl (.int .u64)] [.int .i64] r3BitsF), (135, mkF [.sl (.int .u64), .int .i64] [.sl (.int .u64)] r3ShlF), (76, mkF [.sl (.int .u64), .sl (.int .u64)] [.sl (.int .u64), .sl (.int .u64), .int .i64] r3DivModF)] Try.f144 [2, 3] [.sl (.int .u64), .int .i64]
theorem frame_s0 (r : Rec (dens [.sl (.int .u64), .int .i64])) (a : Int) : evT frame_E frame_h r 3000 false [.code (bodyOf Try.f144)] (T0 0 [.int .i64 a]) [] = frame_b0  a := by kernel_rfl
theorem frame_ev (k : Nat) (a : Int) : evM frame_E frame_h 3000 k [.code (bodyOf Try.f144)] (T0 0 [.int .i64 a]) [] = frame_b0  a := by
  exact frame_s0 _ a

/-! ### plumb/plumbref08.Five -/
def rFive_h : Nat → Option Head := hintOf []
def rFive_b0  (a : Int) : Option (Int × Int × Int × Int) :=
  Option.bind (in4F a) fun t =>
  bif !t then some (0, 0, 0, 80)
  else
    Option.bind (frameF a) fun t =>
      bif inRange 1 (List.length t.1) then bif inRange 0 (List.length t.1) then some (rdI t.1 1, rdI t.1 0, t.2, 0) else none else none
noncomputable def rFive_E : Env (dens [.int .u64, .int .u64, .int .i64, .int .i64]) := envOf S.tab [(143, mkF [.int .i64] [.bool] in4F), (144, mkF [.int .i64] [.sl (.int .u64), .int .i64] frameF)] Try.f106 [2, 3, 4, 5] [.int .u64, .int .u64, .int .i64, .int .i64]
theorem rFive_s0 (r : Rec (dens [.int .u64, .int .u64, .int .i64, .int .i64])) (a : Int) : evT rFive_E rFive_h r 3000 false [.code (bodyOf Try.f106)] (T0 0 [.int .i64 a]) [] = rFive_b0  a := by kernel_rfl
theorem rFive_ev (k : Nat) (a : Int) : evM rFive_E rFive_h 3000 k [.code (bodyOf Try.f106)] (T0 0 [.int .i64 a]) [] = rFive_b0  a := by
  exact rFive_s0 _ a

/-! ### plumb/plumbref08.Whole -/
def rWhole_h : Nat → Option Head := hintOf []
def rWhole_b0  (a : Int) : Option (Bool × Int) :=
  Option.bind (in4F a) fun t =>
  bif !t then some (false, 80)
  else
    bif decide (a < 0) then some (false, 0)
    else
      Option.bind (frameF a) fun t =>
        Option.bind (Power4F (5, a)) fun t_1 =>
          bif decide (t.2 ≤ 0) then some (true, 0) else Option.bind (r3ShlF (t.1, t.2)) fun t => Option.bind (r3CmpF (t, t_1)) fun t => some (decide (t = 0), 0)
noncomputable def rWhole_E : Env (dens [.bool, .int .i64]) := envOf S.tab [(143, mkF [.int .i64] [.bool] in4F), (144, mkF [.int .i64] [.sl (.int .u64), .int .i64] frameF), (146, mkF [.int .u64, .int .i64] [.sl (.int .u64)] Power4F), (135, mkF [.sl (.int .u64), .int .i64] [.sl (.int .u64)] r3ShlF), (129, mkF [.sl (.int .u64), .sl (.int .u64)] [.int .i64] r3CmpF)] Try.f107 [2, 3] [.bool, .int .i64]
theorem rWhole_s0 (r : Rec (dens [.bool, .int .i64])) (a : Int) : evT rWhole_E rWhole_h r 3000 false [.code (bodyOf Try.f107)] (T0 0 [.int .i64 a]) [] = rWhole_b0  a := by kernel_rfl
theorem rWhole_ev (k : Nat) (a : Int) : evM rWhole_E rWhole_h 3000 k [.code (bodyOf Try.f107)] (T0 0 [.int .i64 a]) [] = rWhole_b0  a := by
  exact rWhole_s0 _ a

/-! ### plumb/plumbref08.Above -/
def rAbove_h : Nat → Option Head := hintOf []
def rAbove_b0  (a : Int) : Option (Int × Int × Int × Int) :=
  Option.bind (pWholeF a) fun t =>
  bif !decide (t.2 = 0) then some (0, 0, 0, t.2)
  else
    Option.bind (frameF a) fun t_1 =>
      bif !t.1 then
        Option.bind (r3AddF (t_1.1, [1])) fun t =>
          bif decide ((↑(List.length t) : Int) = 3) then some (9223372036854775808, 0, addI .i64 t_1.2 1, 0)
          else bif inRange 1 (List.length t) then bif inRange 0 (List.length t) then some (rdI t 1, rdI t 0, t_1.2, 0) else none else none
      else
        bif decide ((↑(List.length t_1.1) : Int) = 3) then some (9223372036854775808, 0, addI .i64 t_1.2 1, 0)
        else bif inRange 1 (List.length t_1.1) then bif inRange 0 (List.length t_1.1) then some (rdI t_1.1 1, rdI t_1.1 0, t_1.2, 0) else none else none
noncomputable def rAbove_E : Env (dens [.int .u64, .int .u64, .int .i64, .int .i64]) := envOf S.tab [(107, mkF [.int .i64] [.bool, .int .i64] pWholeF), (144, mkF [.int .i64] [.sl (.int .u64), .int .i64] frameF), (134, mkF [.sl (.int .u64), .sl (.int .u64)] [.sl (.int .u64)] r3AddF)] Try.f108 [2, 3, 4, 5] [.int .u64, .int .u64, .int .i64, .int .i64]
theorem rAbove_s0 (r : Rec (dens [.int .u64, .int .u64, .int .i64, .int .i64])) (a : Int) : evT rAbove_E rAbove_h r 3000 false [.code (bodyOf Try.f108)] (T0 0 [.int .i64 a]) [] = rAbove_b0  a := by kernel_rfl
theorem rAbove_ev (k : Nat) (a : Int) : evM rAbove_E rAbove_h 3000 k [.code (bodyOf Try.f108)] (T0 0 [.int .i64 a]) [] = rAbove_b0  a := by
  exact rAbove_s0 _ a

/-! ### plumb/plumbref08.Log2 -/
def rLog2_h : Nat → Option Head := hintOf []
def rLog2_b0  (a : Int) : Option (Int × Int) :=
  Option.bind (in4F a) fun t => bif !t then some (0, 80) else Option.bind (frameF a) fun t => some (addI .i64 (addI .i64 t.2 127) a, 0)
noncomputable def rLog2_E : Env (dens [.int .i64, .int .i64]) := envOf S.tab [(143, mkF [.int .i64] [.bool] in4F), (144, mkF [.int .i64] [.sl (.int .u64), .int .i64] frameF)] Try.f104 [2, 3] [.int .i64, .int .i64]
theorem rLog2_s0 (r : Rec (dens [.int .i64, .int .i64])) (a : Int) : evT rLog2_E rLog2_h r 3000 false [.code (bodyOf Try.f104)] (T0 0 [.int .i64 a]) [] = rLog2_b0  a := by kernel_rfl
theorem rLog2_ev (k : Nat) (a : Int) : evM rLog2_E rLog2_h 3000 k [.code (bodyOf Try.f104)] (T0 0 [.int .i64 a]) [] = rLog2_b0  a := by
  exact rLog2_s0 _ a

/-! ### plumb/plumbref08.Log10 -/
def rLog10_h : Nat → Option Head := hintOf []
def rLog10_b0  (a : Int) : Option (Int × Int) :=
  bif decide (a < (-1200 : Int)) then some (0, 80)
else
  bif decide (a > 1200) then some (0, 80)
  else
    bif decide (a ≥ 0) then Option.bind (r3ShlF ([1], a)) fun t => Option.bind (Count4F t) fun t => some (subI .i64 t 1, 0)
    else Option.bind (r3ShlF ([1], subI .i64 0 a)) fun t => Option.bind (Count4F t) fun t => some (subI .i64 0 t, 0)
noncomputable def rLog10_E : Env (dens [.int .i64, .int .i64]) := envOf S.tab [(145, mkF [.sl (.int .u64)] [.int .i64] Count4F), (135, mkF [.sl (.int .u64), .int .i64] [.sl (.int .u64)] r3ShlF)] Try.f105 [2, 3] [.int .i64, .int .i64]
theorem rLog10_s0 (r : Rec (dens [.int .i64, .int .i64])) (a : Int) : evT rLog10_E rLog10_h r 3000 false [.code (bodyOf Try.f105)] (T0 0 [.int .i64 a]) [] = rLog10_b0  a := by kernel_rfl
theorem rLog10_ev (k : Nat) (a : Int) : evM rLog10_E rLog10_h 3000 k [.code (bodyOf Try.f105)] (T0 0 [.int .i64 a]) [] = rLog10_b0  a := by
  exact rLog10_s0 _ a

/-! ### plumb/plumblaw08.alive -/
def alive8_h : Nat → Option Head := hintOf []
def alive8_b0   : Option (Bool) :=
  Option.bind (pFiveF 28) fun t =>
  bif decide (t.1 = 9313225746154785156) then
    bif decide ((Prod.snd t).1 = 4611686018427387904) then bif decide ((Prod.snd (Prod.snd t)).1 = (-62 : Int)) then some (decide ((Prod.snd (Prod.snd t)).2 = 0)) else some false
    else some false
  else some false
noncomputable def alive8_E : Env (dens [.bool]) := envOf S.tab [(94, mkF [.int .i64] [.int .u64, .int .u64, .int .i64, .int .i64] pFiveF)] Try.f93 [0] [.bool]
theorem alive8_s0 (r : Rec (dens [.bool]))  : evT alive8_E alive8_h r 3000 false [.code (bodyOf Try.f93)] (T0 0 []) [] = alive8_b0   := by kernel_rfl
theorem alive8_ev (k : Nat)  : evM alive8_E alive8_h 3000 k [.code (bodyOf Try.f93)] (T0 0 []) [] = alive8_b0   := by
  exact alive8_s0 _ 

/-! ### plumb/plumblaw08.in -/
def in8_h : Nat → Option Head := hintOf []
def in8_b0  (a : Int) : Option (Bool) :=
  bif decide (a ≥ (-348 : Int)) then some (decide (a ≤ 347)) else some false
noncomputable def in8_E : Env (dens [.bool]) := envOf S.tab [] Try.f95 [2] [.bool]
theorem in8_s0 (r : Rec (dens [.bool])) (a : Int) : evT in8_E in8_h r 3000 false [.code (bodyOf Try.f95)] (T0 0 [.int .i64 a]) [] = in8_b0  a := by kernel_rfl
theorem in8_ev (k : Nat) (a : Int) : evM in8_E in8_h 3000 k [.code (bodyOf Try.f95)] (T0 0 [.int .i64 a]) [] = in8_b0  a := by
  exact in8_s0 _ a

/-! ### plumb/plumblaw08.shl -/
def shl8_h : Nat → Option Head := hintOf []
def shl8_b0  (a : List Int) (b : Int) : Option (List Int) :=
  Option.bind (nShlF (a, b)) fun t => some t.1
noncomputable def shl8_E : Env (dens [.sl (.int .u64)]) := envOf S.tab [(42, mkF [.sl (.int .u64), .int .i64] [.sl (.int .u64), .int .i64] nShlF)] Try.f140 [4] [.sl (.int .u64)]
theorem shl8_s0 (r : Rec (dens [.sl (.int .u64)])) (a : List Int) (b : Int) : evT shl8_E shl8_h r 3000 false [.code (bodyOf Try.f140)] (T0 0 [.ints .u64 a, .int .i64 b]) [] = shl8_b0  a b := by kernel_rfl
theorem shl8_ev (k : Nat) (a : List Int) (b : Int) : evM shl8_E shl8_h 3000 k [.code (bodyOf Try.f140)] (T0 0 [.ints .u64 a, .int .i64 b]) [] = shl8_b0  a b := by
  exact shl8_s0 _ a b

/-! ### plumb/plumblaw08.mul -/
def mul8_h : Nat → Option Head := hintOf []
def mul8_b0  (a : List Int) (b : List Int) : Option (List Int) :=
  Option.bind (nMulF (a, b)) fun t => some t.1
noncomputable def mul8_E : Env (dens [.sl (.int .u64)]) := envOf S.tab [(38, mkF [.sl (.int .u64), .sl (.int .u64)] [.sl (.int .u64), .int .i64] nMulF)] Try.f98 [4] [.sl (.int .u64)]
theorem mul8_s0 (r : Rec (dens [.sl (.int .u64)])) (a : List Int) (b : List Int) : evT mul8_E mul8_h r 3000 false [.code (bodyOf Try.f98)] (T0 0 [.ints .u64 a, .ints .u64 b]) [] = mul8_b0  a b := by kernel_rfl
theorem mul8_ev (k : Nat) (a : List Int) (b : List Int) : evM mul8_E mul8_h 3000 k [.code (bodyOf Try.f98)] (T0 0 [.ints .u64 a, .ints .u64 b]) [] = mul8_b0  a b := by
  exact mul8_s0 _ a b

/-! ### plumb/plumblaw08.against -/
def against_h : Nat → Option Head := hintOf []
def against_b0  (a : List Int) (b : Int) (c : Int) : Option (Int) :=
  Option.bind (Five5F c) fun t =>
  bif decide (c < 0) then
    Option.bind (Five5F (subI .i64 0 c)) fun t =>
      Option.bind (mul8F (a, t.1)) fun t =>
        bif decide (b ≥ 0) then Option.bind (shl8F (t, b)) fun t => Option.bind (nCmpF (t, [1])) fun t => some t
        else Option.bind (shl8F ([1], subI .i64 0 b)) fun t_1 => Option.bind (nCmpF (t, t_1)) fun t => some t
  else
    bif decide (b ≥ 0) then Option.bind (shl8F (a, b)) fun t_1 => Option.bind (nCmpF (t_1, t.1)) fun t => some t
    else Option.bind (shl8F (t.1, subI .i64 0 b)) fun t => Option.bind (nCmpF (a, t)) fun t => some t
noncomputable def against_E : Env (dens [.int .i64]) := envOf S.tab [(139, mkF [.int .i64] [.sl (.int .u64), .int .i64] Five5F), (98, mkF [.sl (.int .u64), .sl (.int .u64)] [.sl (.int .u64)] mul8F), (33, mkF [.sl (.int .u64), .sl (.int .u64)] [.int .i64] nCmpF), (140, mkF [.sl (.int .u64), .int .i64] [.sl (.int .u64)] shl8F)] Try.f97 [6] [.int .i64]
theorem against_s0 (r : Rec (dens [.int .i64])) (a : List Int) (b : Int) (c : Int) : evT against_E against_h r 3000 false [.code (bodyOf Try.f97)] (T0 0 [.ints .u64 a, .int .i64 b, .int .i64 c]) [] = against_b0  a b c := by kernel_rfl
theorem against_ev (k : Nat) (a : List Int) (b : Int) (c : Int) : evM against_E against_h 3000 k [.code (bodyOf Try.f97)] (T0 0 [.ints .u64 a, .int .i64 b, .int .i64 c]) [] = against_b0  a b c := by
  exact against_s0 _ a b c

/-! ### plumb/plumblaw08.ordered -/
def ordered_h : Nat → Option Head := hintOf []
def ordered_b0  (a : Int) (b : Int) : Option (Bool) :=
  bif decide (a ≥ 0) then
  Option.bind (shl8F ([1], a)) fun t =>
    bif decide (b ≥ 0) then Option.bind (TenF b) fun t_1 => Option.bind (mul8F ([1], t_1.1)) fun t_2 => Option.bind (nCmpF (t, t_2)) fun t => some (decide (t ≤ 0))
    else Option.bind (TenF (subI .i64 0 b)) fun t_1 => Option.bind (mul8F (t, t_1.1)) fun t => Option.bind (nCmpF (t, [1])) fun t => some (decide (t ≤ 0))
else
  Option.bind (shl8F ([1], subI .i64 0 a)) fun t =>
    bif decide (b ≥ 0) then Option.bind (TenF b) fun t_1 => Option.bind (mul8F (t, t_1.1)) fun t => Option.bind (nCmpF ([1], t)) fun t => some (decide (t ≤ 0))
    else Option.bind (TenF (subI .i64 0 b)) fun t_1 => Option.bind (mul8F ([1], t_1.1)) fun t_2 => Option.bind (nCmpF (t_2, t)) fun t => some (decide (t ≤ 0))
noncomputable def ordered_E : Env (dens [.bool]) := envOf S.tab [(140, mkF [.sl (.int .u64), .int .i64] [.sl (.int .u64)] shl8F), (142, mkF [.int .i64] [.sl (.int .u64), .int .i64] TenF), (98, mkF [.sl (.int .u64), .sl (.int .u64)] [.sl (.int .u64)] mul8F), (33, mkF [.sl (.int .u64), .sl (.int .u64)] [.int .i64] nCmpF)] Try.f102 [4] [.bool]
theorem ordered_s0 (r : Rec (dens [.bool])) (a : Int) (b : Int) : evT ordered_E ordered_h r 3000 false [.code (bodyOf Try.f102)] (T0 0 [.int .i64 a, .int .i64 b]) [] = ordered_b0  a b := by kernel_rfl
theorem ordered_ev (k : Nat) (a : Int) (b : Int) : evM ordered_E ordered_h 3000 k [.code (bodyOf Try.f102)] (T0 0 [.int .i64 a, .int .i64 b]) [] = ordered_b0  a b := by
  exact ordered_s0 _ a b

/-! ### plumb/plumblaw08.turned -/
def turned_h : Nat → Option Head := hintOf []
def turned_b0  (a : Int) (b : Int) : Option (Bool) :=
  bif decide (b ≥ 0) then
  Option.bind (shl8F ([1], b)) fun t =>
    bif decide (a ≥ 0) then Option.bind (TenF a) fun t_1 => Option.bind (mul8F ([1], t_1.1)) fun t_2 => Option.bind (nCmpF (t_2, t)) fun t => some (decide (t ≤ 0))
    else Option.bind (TenF (subI .i64 0 a)) fun t_1 => Option.bind (mul8F (t, t_1.1)) fun t => Option.bind (nCmpF ([1], t)) fun t => some (decide (t ≤ 0))
else
  Option.bind (shl8F ([1], subI .i64 0 b)) fun t =>
    bif decide (a ≥ 0) then Option.bind (TenF a) fun t_1 => Option.bind (mul8F (t, t_1.1)) fun t => Option.bind (nCmpF (t, [1])) fun t => some (decide (t ≤ 0))
    else Option.bind (TenF (subI .i64 0 a)) fun t_1 => Option.bind (mul8F ([1], t_1.1)) fun t_2 => Option.bind (nCmpF (t, t_2)) fun t => some (decide (t ≤ 0))
noncomputable def turned_E : Env (dens [.bool]) := envOf S.tab [(140, mkF [.sl (.int .u64), .int .i64] [.sl (.int .u64)] shl8F), (142, mkF [.int .i64] [.sl (.int .u64), .int .i64] TenF), (98, mkF [.sl (.int .u64), .sl (.int .u64)] [.sl (.int .u64)] mul8F), (33, mkF [.sl (.int .u64), .sl (.int .u64)] [.int .i64] nCmpF)] Try.f103 [4] [.bool]
theorem turned_s0 (r : Rec (dens [.bool])) (a : Int) (b : Int) : evT turned_E turned_h r 3000 false [.code (bodyOf Try.f103)] (T0 0 [.int .i64 a, .int .i64 b]) [] = turned_b0  a b := by kernel_rfl
theorem turned_ev (k : Nat) (a : Int) (b : Int) : evM turned_E turned_h 3000 k [.code (bodyOf Try.f103)] (T0 0 [.int .i64 a, .int .i64 b]) [] = turned_b0  a b := by
  exact turned_s0 _ a b

/-! ### plumb/plumblaw08.PowerRises -/
def PowerRises_h : Nat → Option Head := hintOf []
def PowerRises_b0  (a : Int) : Option (Bool) :=
  Option.bind (aliveF PUnit.unit) fun t =>
  bif !t then some false
  else
    Option.bind (pFiveF a) fun t =>
      bif decide (a < (-348 : Int)) then
        bif decide (a = 347) then
          bif decide ((Prod.snd (Prod.snd t)).2 = 0) then some true else Option.bind (in4F a) fun t_1 => bif !t_1 then some (decide ((Prod.snd (Prod.snd t)).2 = 80)) else some false
        else Option.bind (in4F a) fun t_1 => bif !t_1 then some (decide ((Prod.snd (Prod.snd t)).2 = 80)) else some false
      else
        bif decide (a > 346) then
          bif decide (a = 347) then
            bif decide ((Prod.snd (Prod.snd t)).2 = 0) then some true else Option.bind (in4F a) fun t_1 => bif !t_1 then some (decide ((Prod.snd (Prod.snd t)).2 = 80)) else some false
          else Option.bind (in4F a) fun t_1 => bif !t_1 then some (decide ((Prod.snd (Prod.snd t)).2 = 80)) else some false
        else
          Option.bind (pFiveF (addI .i64 a 1)) fun t_1 =>
            Option.bind (pWholeF a) fun t_2 =>
              bif decide ((Prod.snd (Prod.snd t)).2 = 0) then
                bif decide ((Prod.snd (Prod.snd t_1)).2 = 0) then
                  bif decide (subI .i64 (Prod.snd (Prod.snd t_1)).1 (Prod.snd (Prod.snd t)).1 = 2) then
                    bif decide (a ≥ 0) then some (decide (t_2.1 = decide (a ≤ 55))) else some (decide (t_2.1 = false))
                  else
                    bif decide (subI .i64 (Prod.snd (Prod.snd t_1)).1 (Prod.snd (Prod.snd t)).1 = 3) then
                      bif decide (a ≥ 0) then some (decide (t_2.1 = decide (a ≤ 55))) else some (decide (t_2.1 = false))
                    else some false
                else some false
              else some false
noncomputable def PowerRises_E : Env (dens [.bool]) := envOf S.tab [(93, mkF [] [.bool] aliveF), (94, mkF [.int .i64] [.int .u64, .int .u64, .int .i64, .int .i64] pFiveF), (95, mkF [.int .i64] [.bool] in4F), (96, mkF [.int .i64] [.bool, .int .i64] pWholeF)] Try.f21 [2] [.bool]
theorem PowerRises_s0 (r : Rec (dens [.bool])) (a : Int) : evT PowerRises_E PowerRises_h r 3000 false [.code (bodyOf Try.f21)] (T0 0 [.int .i64 a]) [] = PowerRises_b0  a := by kernel_rfl
theorem PowerRises_ev (k : Nat) (a : Int) : evM PowerRises_E PowerRises_h 3000 k [.code (bodyOf Try.f21)] (T0 0 [.int .i64 a]) [] = PowerRises_b0  a := by
  exact PowerRises_s0 _ a

/-! ### plumb/plumblaw08.PowerProducts -/
def PowerProducts_h : Nat → Option Head := hintOf []
def PowerProducts_b0  (a : Int) (b : Int) : Option (Bool) :=
  Option.bind (aliveF PUnit.unit) fun t =>
  bif !t then Option.bind (aliveF PUnit.unit) fun t => some t
  else
    Option.bind (in4F a) fun t =>
      bif !t then Option.bind (aliveF PUnit.unit) fun t => some t
      else
        Option.bind (in4F b) fun t =>
          bif !t then Option.bind (aliveF PUnit.unit) fun t => some t
          else
            Option.bind (in4F (addI .i64 a b)) fun t =>
              bif !t then Option.bind (aliveF PUnit.unit) fun t => some t
              else
                Option.bind (pFiveF a) fun t =>
                  Option.bind (pFiveF b) fun t_1 =>
                    Option.bind (nAddF ([(Prod.snd t).1, t.1], [1])) fun t_2 =>
                      Option.bind (nAddF ([(Prod.snd t_1).1, t_1.1], [1])) fun t_3 =>
                        Option.bind (mul8F ([(Prod.snd t).1, t.1], [(Prod.snd t_1).1, t_1.1])) fun t_4 =>
                          Option.bind (againstF (t_4, addI .i64 (Prod.snd (Prod.snd t)).1 (Prod.snd (Prod.snd t_1)).1, addI .i64 a b)) fun t_5 =>
                            bif decide (t_5 ≤ 0) then
                              Option.bind (mul8F (t_2.1, t_3.1)) fun t_6 =>
                                Option.bind (againstF (t_6, addI .i64 (Prod.snd (Prod.snd t)).1 (Prod.snd (Prod.snd t_1)).1, addI .i64 a b)) fun t => some (decide (t > 0))
                            else some false
noncomputable def PowerProducts_E : Env (dens [.bool]) := envOf S.tab [(93, mkF [] [.bool] aliveF), (95, mkF [.int .i64] [.bool] in4F), (94, mkF [.int .i64] [.int .u64, .int .u64, .int .i64, .int .i64] pFiveF), (40, mkF [.sl (.int .u64), .sl (.int .u64)] [.sl (.int .u64), .int .i64] nAddF), (98, mkF [.sl (.int .u64), .sl (.int .u64)] [.sl (.int .u64)] mul8F), (97, mkF [.sl (.int .u64), .int .i64, .int .i64] [.int .i64] againstF)] Try.f22 [4] [.bool]
theorem PowerProducts_s0 (r : Rec (dens [.bool])) (a : Int) (b : Int) : evT PowerProducts_E PowerProducts_h r 3000 false [.code (bodyOf Try.f22)] (T0 0 [.int .i64 a, .int .i64 b]) [] = PowerProducts_b0  a b := by kernel_rfl
theorem PowerProducts_ev (k : Nat) (a : Int) (b : Int) : evM PowerProducts_E PowerProducts_h 3000 k [.code (bodyOf Try.f22)] (T0 0 [.int .i64 a, .int .i64 b]) [] = PowerProducts_b0  a b := by
  exact PowerProducts_s0 _ a b

/-! ### plumb/plumblaw08.PowerBounds -/
def PowerBounds_h : Nat → Option Head := hintOf []
def PowerBounds_b0  (a : Int) : Option (Bool) :=
  Option.bind (aliveF PUnit.unit) fun t =>
  bif !t then some false
  else
    Option.bind (pFiveF a) fun t =>
      Option.bind (pWholeF a) fun t_1 =>
        Option.bind (pAboveF a) fun t_2 =>
          Option.bind (in4F a) fun t_3 =>
            bif !t_3 then
              bif decide ((Prod.snd (Prod.snd t)).2 = 80) then
                bif decide (t_1.2 = 80) then
                  bif decide ((Prod.snd (Prod.snd t_2)).2 = 80) then
                    bif decide (t.1 = 0) then
                      bif decide ((Prod.snd t).1 = 0) then
                        bif decide ((Prod.snd (Prod.snd t)).1 = 0) then
                          bif !t_1.1 then
                            bif decide (t_2.1 = 0) then bif decide ((Prod.snd t_2).1 = 0) then some (decide ((Prod.snd (Prod.snd t_2)).1 = 0)) else some false else some false
                          else some false
                        else some false
                      else some false
                    else some false
                  else some false
                else some false
              else some false
            else
              Option.bind (nAddF ([(Prod.snd t).1, t.1], [1])) fun t_4 =>
                Option.bind (againstF ([(Prod.snd t).1, t.1], (Prod.snd (Prod.snd t)).1, a)) fun t_5 =>
                  bif !decide ((Prod.snd (Prod.snd t)).2 = 0) then some false
                  else
                    bif !decide (t_1.2 = 0) then some false
                    else
                      bif !decide ((Prod.snd (Prod.snd t_2)).2 = 0) then some false
                      else
                        bif decide (t.1 < 9223372036854775808) then some false
                        else
                          bif decide (t_5 > 0) then some false
                          else
                            bif !decide (t_1.1 = decide (t_5 = 0)) then some false
                            else
                              Option.bind (againstF (t_4.1, (Prod.snd (Prod.snd t)).1, a)) fun t =>
                                bif decide (t ≤ 0) then some false
                                else
                                  Option.bind (nSubF ([(Prod.snd t_2).1, t_2.1], [1])) fun t =>
                                    bif decide (t_2.1 ≥ 9223372036854775808) then
                                      Option.bind (againstF ([(Prod.snd t_2).1, t_2.1], (Prod.snd (Prod.snd t_2)).1, a)) fun t_6 =>
                                        bif decide (t_6 ≥ 0) then Option.bind (againstF (t.1, (Prod.snd (Prod.snd t_2)).1, a)) fun t => some (decide (t < 0)) else some false
                                    else some false
noncomputable def PowerBounds_E : Env (dens [.bool]) := envOf S.tab [(93, mkF [] [.bool] aliveF), (94, mkF [.int .i64] [.int .u64, .int .u64, .int .i64, .int .i64] pFiveF), (96, mkF [.int .i64] [.bool, .int .i64] pWholeF), (99, mkF [.int .i64] [.int .u64, .int .u64, .int .i64, .int .i64] pAboveF), (95, mkF [.int .i64] [.bool] in4F), (40, mkF [.sl (.int .u64), .sl (.int .u64)] [.sl (.int .u64), .int .i64] nAddF), (97, mkF [.sl (.int .u64), .int .i64, .int .i64] [.int .i64] againstF), (30, mkF [.sl (.int .u64), .sl (.int .u64)] [.sl (.int .u64), .int .i64] nSubF)] Try.f23 [2] [.bool]
theorem PowerBounds_s0 (r : Rec (dens [.bool])) (a : Int) : evT PowerBounds_E PowerBounds_h r 3000 false [.code (bodyOf Try.f23)] (T0 0 [.int .i64 a]) [] = PowerBounds_b0  a := by kernel_rfl
theorem PowerBounds_ev (k : Nat) (a : Int) : evM PowerBounds_E PowerBounds_h 3000 k [.code (bodyOf Try.f23)] (T0 0 [.int .i64 a]) [] = PowerBounds_b0  a := by
  exact PowerBounds_s0 _ a

/-! ### plumb/plumblaw08.PowerTens -/
def PowerTens_h : Nat → Option Head := hintOf []
def PowerTens_b0  (a : Int) : Option (Bool) :=
  Option.bind (aliveF PUnit.unit) fun t =>
  bif !t then some false
  else
    Option.bind (pLog2F a) fun t =>
      Option.bind (pLog10F a) fun t_1 =>
        Option.bind (in4F a) fun t_2 =>
          bif !decide (decide (t.2 = 0) = t_2) then some false
          else
            bif decide (a ≥ (-1200 : Int)) then
              bif !decide (decide (t_1.2 = 0) = decide (a ≤ 1200)) then some false
              else
                bif decide (t.2 = 0) then
                  Option.bind (orderedF (t.1, a)) fun t_3 =>
                    bif t_3 then
                      Option.bind (orderedF (addI .i64 t.1 1, a)) fun t =>
                        bif !!t then some false
                        else
                          bif !decide (t_1.2 = 0) then bif decide (t_1.2 = 80) then some (decide (t_1.1 = 0)) else some false
                          else Option.bind (turnedF (t_1.1, a)) fun t => bif t then Option.bind (turnedF (addI .i64 t_1.1 1, a)) fun t => some !t else some false
                    else some false
                else
                  bif !decide (t_1.2 = 0) then bif decide (t_1.2 = 80) then some (decide (t_1.1 = 0)) else some false
                  else Option.bind (turnedF (t_1.1, a)) fun t => bif t then Option.bind (turnedF (addI .i64 t_1.1 1, a)) fun t => some !t else some false
            else
              bif !decide (decide (t_1.2 = 0) = false) then some false
              else
                bif decide (t.2 = 0) then
                  Option.bind (orderedF (t.1, a)) fun t_3 =>
                    bif t_3 then
                      Option.bind (orderedF (addI .i64 t.1 1, a)) fun t =>
                        bif !!t then some false
                        else
                          bif !decide (t_1.2 = 0) then bif decide (t_1.2 = 80) then some (decide (t_1.1 = 0)) else some false
                          else Option.bind (turnedF (t_1.1, a)) fun t => bif t then Option.bind (turnedF (addI .i64 t_1.1 1, a)) fun t => some !t else some false
                    else some false
                else
                  bif !decide (t_1.2 = 0) then bif decide (t_1.2 = 80) then some (decide (t_1.1 = 0)) else some false
                  else Option.bind (turnedF (t_1.1, a)) fun t => bif t then Option.bind (turnedF (addI .i64 t_1.1 1, a)) fun t => some !t else some false
noncomputable def PowerTens_E : Env (dens [.bool]) := envOf S.tab [(93, mkF [] [.bool] aliveF), (100, mkF [.int .i64] [.int .i64, .int .i64] pLog2F), (101, mkF [.int .i64] [.int .i64, .int .i64] pLog10F), (95, mkF [.int .i64] [.bool] in4F), (102, mkF [.int .i64, .int .i64] [.bool] orderedF), (103, mkF [.int .i64, .int .i64] [.bool] turnedF)] Try.f24 [2] [.bool]
theorem PowerTens_s0 (r : Rec (dens [.bool])) (a : Int) : evT PowerTens_E PowerTens_h r 3000 false [.code (bodyOf Try.f24)] (T0 0 [.int .i64 a]) [] = PowerTens_b0  a := by kernel_rfl
theorem PowerTens_ev (k : Nat) (a : Int) : evM PowerTens_E PowerTens_h 3000 k [.code (bodyOf Try.f24)] (T0 0 [.int .i64 a]) [] = PowerTens_b0  a := by
  exact PowerTens_s0 _ a

/-! ### plumb/plumblaw08.PowerStays -/
def PowerStays_h : Nat → Option Head := hintOf [(10, ⟨[(0, .same), (1, .same), (5, .same), (6, .same), (7, .same), (8, .same), (9, .same), (10, .same), (11, .same), (12, .same), (13, .same), (14, .same), (15, .same)], 0⟩)]
def PowerStays_b0 (l10 : Int → List Int → Int → Int → Int → Int → Int → Int → Int → Int → Int → Int → Int → Option Bool) (a : Int) (b : List Int) : Option (Bool) :=
  Option.bind (pFiveF a) fun t =>
  Option.bind (pAboveF a) fun t_1 =>
    Option.bind (pLog2F a) fun t_2 =>
      l10 a b t.1 (Prod.snd t).1 (Prod.snd (Prod.snd t)).1 (Prod.snd (Prod.snd t)).2 t_1.1 (Prod.snd t_1).1 (Prod.snd (Prod.snd t_1)).1 (Prod.snd (Prod.snd t_1)).2 t_2.1 t_2.2 0
def PowerStays_b10 (l10 : Int → List Int → Int → Int → Int → Int → Int → Int → Int → Int → Int → Int → Int → Option Bool) (t0 : Int) (t1 : List Int) (t5 : Int) (t6 : Int) (t7 : Int) (t8 : Int) (t9 : Int) (t10 : Int) (t11 : Int) (t12 : Int) (t13 : Int) (t14 : Int) (t15 : Int) : Option (Bool) :=
  bif decide (t15 < (↑(List.length t1) : Int)) then
  bif inRange t15 (List.length t1) then
    Option.bind (pFiveF (rdI t1 t15)) fun t =>
      bif inRange t15 (List.length t1) then
        Option.bind (pFiveF (rdI t1 t15)) fun t_1 =>
          bif !decide (t.1 = t_1.1) then some false
          else
            bif !decide ((Prod.snd t).1 = (Prod.snd t_1).1) then some false
            else
              bif !decide ((Prod.snd (Prod.snd t)).1 = (Prod.snd (Prod.snd t_1)).1) then some false
              else
                bif !decide ((Prod.snd (Prod.snd t)).2 = (Prod.snd (Prod.snd t_1)).2) then some false
                else
                  bif inRange t15 (List.length t1) then
                    Option.bind (pAboveF (rdI t1 t15)) fun t =>
                      bif inRange t15 (List.length t1) then Option.bind (pLog10F (rdI t1 t15)) fun t => l10 t0 t1 t5 t6 t7 t8 t9 t10 t11 t12 t13 t14 (addI .i64 t15 1) else none
                  else none
      else none
  else none
else
  Option.bind (pFiveF t0) fun t =>
    Option.bind (pAboveF t0) fun t_1 =>
      Option.bind (pLog2F t0) fun t_2 =>
        Option.bind (aliveF PUnit.unit) fun t_3 =>
          bif t_3 then
            bif decide (t.1 = t5) then
              bif decide ((Prod.snd t).1 = t6) then
                bif decide ((Prod.snd (Prod.snd t)).1 = t7) then
                  bif decide ((Prod.snd (Prod.snd t)).2 = t8) then
                    bif decide (t_1.1 = t9) then
                      bif decide ((Prod.snd t_1).1 = t10) then
                        bif decide ((Prod.snd (Prod.snd t_1)).1 = t11) then
                          bif decide ((Prod.snd (Prod.snd t_1)).2 = t12) then bif decide (t_2.1 = t13) then some (decide (t_2.2 = t14)) else some false else some false
                        else some false
                      else some false
                    else some false
                  else some false
                else some false
              else some false
            else some false
          else some false
mutual
def PowerStays_L10 : Nat → Int → (List Int) → Int → Int → Int → Int → Int → Int → Int → Int → Int → Int → Int → Option (Bool)
  | 0, _, _, _, _, _, _, _, _, _, _, _, _, _ => none
  | k + 1, t0, t1, t5, t6, t7, t8, t9, t10, t11, t12, t13, t14, t15 => PowerStays_b10 (PowerStays_L10 k) t0 t1 t5 t6 t7 t8 t9 t10 t11 t12 t13 t14 t15
end
noncomputable def PowerStays_E : Env (dens [.bool]) := envOf S.tab [(94, mkF [.int .i64] [.int .u64, .int .u64, .int .i64, .int .i64] pFiveF), (99, mkF [.int .i64] [.int .u64, .int .u64, .int .i64, .int .i64] pAboveF), (100, mkF [.int .i64] [.int .i64, .int .i64] pLog2F), (101, mkF [.int .i64] [.int .i64, .int .i64] pLog10F), (93, mkF [] [.bool] aliveF)] Try.f25 [4] [.bool]
theorem PowerStays_s0 (r : Rec (dens [.bool])) (a : Int) (b : List Int) : evT PowerStays_E PowerStays_h r 3000 false [.code (bodyOf Try.f25)] (T0 0 [.int .i64 a, .ints .i64 b]) [] = PowerStays_b0 (fun t0 t1 t5 t6 t7 t8 t9 t10 t11 t12 t13 t14 t15 => r (todoOf 10 (bodyOf Try.f25)) [(0, AV.int .i64 t0), (1, AV.ints .i64 t1), (5, AV.int .u64 t5), (6, AV.int .u64 t6), (7, AV.int .i64 t7),
  (8, AV.int .i64 t8), (9, AV.int .u64 t9), (10, AV.int .u64 t10), (11, AV.int .i64 t11), (12, AV.int .i64 t12),
  (13, AV.int .i64 t13), (14, AV.int .i64 t14), (15, AV.int .i64 t15)] []) a b := by kernel_rfl
theorem PowerStays_s10 (r : Rec (dens [.bool])) (t0 : Int) (t1 : List Int) (t5 : Int) (t6 : Int) (t7 : Int) (t8 : Int) (t9 : Int) (t10 : Int) (t11 : Int) (t12 : Int) (t13 : Int) (t14 : Int) (t15 : Int) : evT PowerStays_E PowerStays_h r 3000 true (todoOf 10 (bodyOf Try.f25)) [(0, AV.int .i64 t0), (1, AV.ints .i64 t1), (5, AV.int .u64 t5), (6, AV.int .u64 t6), (7, AV.int .i64 t7),
  (8, AV.int .i64 t8), (9, AV.int .u64 t9), (10, AV.int .u64 t10), (11, AV.int .i64 t11), (12, AV.int .i64 t12),
  (13, AV.int .i64 t13), (14, AV.int .i64 t14), (15, AV.int .i64 t15)] [] = PowerStays_b10 (fun t0 t1 t5 t6 t7 t8 t9 t10 t11 t12 t13 t14 t15 => r (todoOf 10 (bodyOf Try.f25)) [(0, AV.int .i64 t0), (1, AV.ints .i64 t1), (5, AV.int .u64 t5), (6, AV.int .u64 t6), (7, AV.int .i64 t7),
  (8, AV.int .i64 t8), (9, AV.int .u64 t9), (10, AV.int .u64 t10), (11, AV.int .i64 t11), (12, AV.int .i64 t12),
  (13, AV.int .i64 t13), (14, AV.int .i64 t14), (15, AV.int .i64 t15)] []) t0 t1 t5 t6 t7 t8 t9 t10 t11 t12 t13 t14 t15 := by kernel_rfl
theorem PowerStays_k : ∀ k, (∀ (t0 : Int) (t1 : List Int) (t5 : Int) (t6 : Int) (t7 : Int) (t8 : Int) (t9 : Int) (t10 : Int) (t11 : Int) (t12 : Int) (t13 : Int) (t14 : Int) (t15 : Int), evK PowerStays_E PowerStays_h 3000 k (todoOf 10 (bodyOf Try.f25)) [(0, AV.int .i64 t0), (1, AV.ints .i64 t1), (5, AV.int .u64 t5), (6, AV.int .u64 t6), (7, AV.int .i64 t7),
  (8, AV.int .i64 t8), (9, AV.int .u64 t9), (10, AV.int .u64 t10), (11, AV.int .i64 t11), (12, AV.int .i64 t12),
  (13, AV.int .i64 t13), (14, AV.int .i64 t14), (15, AV.int .i64 t15)] [] = PowerStays_L10 k t0 t1 t5 t6 t7 t8 t9 t10 t11 t12 t13 t14 t15)
  | 0 => by
    refine ?_ <;> intros <;> rfl
  | k + 1 => by
    have ih := PowerStays_k k
    refine ?_ <;> intros
    · exact ((PowerStays_s10 _ _ _ _ _ _ _ _ _ _ _ _ _ _).trans (by simp only [ih] <;> rfl))
theorem PowerStays_ev (k : Nat) (a : Int) (b : List Int) : evM PowerStays_E PowerStays_h 3000 k [.code (bodyOf Try.f25)] (T0 0 [.int .i64 a, .ints .i64 b]) [] = PowerStays_b0 (PowerStays_L10 k) a b := by
  refine (PowerStays_s0 _ a b).trans ?_
  simp only [PowerStays_k k] <;> rfl

/-! ### plumb/plumblaw08.PowerFives -/
def PowerFives_h : Nat → Option Head := hintOf []
def PowerFives_b0  (a : Int) : Option (Bool) :=
  Option.bind (pLog2F a) fun t =>
  Option.bind (pLog2F a) fun t_1 =>
    Option.bind (pLog10F a) fun t_2 =>
      Option.bind (pLog10F a) fun t_3 =>
        bif !decide (t.1 = t_1.1) then some false
        else
          bif !decide (t.2 = t_1.2) then some false
          else
            bif !decide (t_2.1 = t_3.1) then some false
            else
              bif !decide (t_2.2 = t_3.2) then some false
              else
                Option.bind (pFiveF a) fun t =>
                  Option.bind (pFiveF a) fun t_4 =>
                    Option.bind (pWholeF a) fun t_5 =>
                      Option.bind (pWholeF a) fun t_6 =>
                        Option.bind (pAboveF a) fun t_7 =>
                          Option.bind (pAboveF a) fun t_8 =>
                            Option.bind (aliveF PUnit.unit) fun t_9 =>
                              bif t_9 then
                                bif decide (t.1 = t_4.1) then
                                  bif decide ((Prod.snd t).1 = (Prod.snd t_4).1) then
                                    bif decide ((Prod.snd (Prod.snd t)).1 = (Prod.snd (Prod.snd t_4)).1) then
                                      bif decide ((Prod.snd (Prod.snd t)).2 = (Prod.snd (Prod.snd t_4)).2) then
                                        bif decide (t_5.1 = t_6.1) then
                                          bif decide (t_5.2 = t_6.2) then
                                            bif decide (t_7.1 = t_8.1) then
                                              bif decide ((Prod.snd t_7).1 = (Prod.snd t_8).1) then
                                                bif decide ((Prod.snd (Prod.snd t_7)).1 = (Prod.snd (Prod.snd t_8)).1) then some (decide ((Prod.snd (Prod.snd t_7)).2 = (Prod.snd (Prod.snd t_8)).2))
                                                else some false
                                              else some false
                                            else some false
                                          else some false
                                        else some false
                                      else some false
                                    else some false
                                  else some false
                                else some false
                              else some false
noncomputable def PowerFives_E : Env (dens [.bool]) := envOf S.tab [(100, mkF [.int .i64] [.int .i64, .int .i64] pLog2F), (104, mkF [.int .i64] [.int .i64, .int .i64] pLog2F), (101, mkF [.int .i64] [.int .i64, .int .i64] pLog10F), (105, mkF [.int .i64] [.int .i64, .int .i64] pLog10F), (94, mkF [.int .i64] [.int .u64, .int .u64, .int .i64, .int .i64] pFiveF), (106, mkF [.int .i64] [.int .u64, .int .u64, .int .i64, .int .i64] pFiveF), (96, mkF [.int .i64] [.bool, .int .i64] pWholeF), (107, mkF [.int .i64] [.bool, .int .i64] pWholeF), (99, mkF [.int .i64] [.int .u64, .int .u64, .int .i64, .int .i64] pAboveF), (108, mkF [.int .i64] [.int .u64, .int .u64, .int .i64, .int .i64] pAboveF), (93, mkF [] [.bool] aliveF)] Try.f26 [2] [.bool]
theorem PowerFives_s0 (r : Rec (dens [.bool])) (a : Int) : evT PowerFives_E PowerFives_h r 3000 false [.code (bodyOf Try.f26)] (T0 0 [.int .i64 a]) [] = PowerFives_b0  a := by kernel_rfl
theorem PowerFives_ev (k : Nat) (a : Int) : evM PowerFives_E PowerFives_h 3000 k [.code (bodyOf Try.f26)] (T0 0 [.int .i64 a]) [] = PowerFives_b0  a := by
  exact PowerFives_s0 _ a

end
end Go.RX.S
