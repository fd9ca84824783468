/- What functions compute, printed. -/
import Derived.Test.YtkiihodbgdnijaaGreatDoorKc
set_option linter.unusedVariables false
set_option linter.unusedSimpArgs false
namespace Go.RX.S
open Go Go.RX Go.Proofs
noncomputable section
/-! ### (plumb/plumblaw09.Piece).made -/
def x9made_h : Nat → Option Head := hintOf [(15, ⟨[(1, .same), (3, .same), (4, .same), (5, .same), (6, .same), (7, .same)], 2⟩), (27, ⟨[(3, .same), (5, .same), (6, .same), (8, .same), (9, .same)], 2⟩), (33, ⟨[(1, .same), (3, .same), (4, .same), (5, .same), (6, .same), (8, .same), (9, .same)], 2⟩), (39, ⟨[(1, .same), (3, .same), (4, .same), (5, .same), (6, .same), (8, .same), (9, .same), (10, .same)], 2⟩), (47, ⟨[(1, .same), (3, .same), (4, .same), (5, .same), (6, .same), (8, .same), (9, .same), (10, .same), (11, .same), (12, .same)], 2⟩)]
def x9made_b0 (l15 : Int → ByteArray → Bool → Int → List AV → List AV → Option (ByteArray × List AV)) (l27 : ByteArray → Bool → ByteArray → ByteArray → List AV → List AV → Option (ByteArray × List AV)) (l33 : Int → ByteArray → Bool → ByteArray → ByteArray → List AV → List AV → Option (ByteArray × List AV)) (l39 : Int → ByteArray → Bool → ByteArray → ByteArray → ByteArray → List AV → List AV → Option (ByteArray × List AV)) (l47 : Int → ByteArray → Bool → ByteArray → ByteArray → ByteArray → Int → Int → List AV → List AV → Option (ByteArray × List AV)) (a : List AV) : Option (ByteArray × List AV) :=
  Option.bind (into9F (AV.toInt (aget a 0), (3 : Int))) fun t =>
  Option.bind (into9F (AV.toInt (aget a 1), (3 : Int))) fun t_1 =>
    Option.bind (x9signF (subI .i64 t_1 (1 : Int), AV.toBool (aget a 7))) fun t_2 =>
      bif decide (t = (1 : Int)) then
        l15 t t_2 (strEq t_2 (strOfI [(45 : Int)])) (16 : Int)
          [AV.agg
              [AV.int .i64 (AV.toInt (aget a 0)), AV.int .i64 (AV.toInt (aget a 1)), AV.ints .i64 (AV.asInts (aget a 2)),
                AV.ints .i64 (AV.asInts (aget a 3)), AV.bool (AV.toBool (aget a 4)), AV.bool (AV.toBool (aget a 5)),
                AV.int .i64 (AV.toInt (aget a 6)), AV.bool (AV.toBool (aget a 7)), AV.bool (AV.toBool (aget a 8))]]
          [AV.agg [AV.int .i64 (0 : Int), AV.bool false, AV.str (strOfI []), AV.int .i64 (0 : Int), AV.str (strOfI [])]]
      else
        l15 t t_2 (strEq t_2 (strOfI [(45 : Int)])) (10 : Int)
          [AV.agg
              [AV.int .i64 (AV.toInt (aget a 0)), AV.int .i64 (AV.toInt (aget a 1)), AV.ints .i64 (AV.asInts (aget a 2)),
                AV.ints .i64 (AV.asInts (aget a 3)), AV.bool (AV.toBool (aget a 4)), AV.bool (AV.toBool (aget a 5)),
                AV.int .i64 (AV.toInt (aget a 6)), AV.bool (AV.toBool (aget a 7)), AV.bool (AV.toBool (aget a 8))]]
          [AV.agg [AV.int .i64 (0 : Int), AV.bool false, AV.str (strOfI []), AV.int .i64 (0 : Int), AV.str (strOfI [])]]
def x9made_b15 (l15 : Int → ByteArray → Bool → Int → List AV → List AV → Option (ByteArray × List AV)) (l27 : ByteArray → Bool → ByteArray → ByteArray → List AV → List AV → Option (ByteArray × List AV)) (l33 : Int → ByteArray → Bool → ByteArray → ByteArray → List AV → List AV → Option (ByteArray × List AV)) (l39 : Int → ByteArray → Bool → ByteArray → ByteArray → ByteArray → List AV → List AV → Option (ByteArray × List AV)) (l47 : Int → ByteArray → Bool → ByteArray → ByteArray → ByteArray → Int → Int → List AV → List AV → Option (ByteArray × List AV)) (t4 : Int) (t5 : ByteArray) (t6 : Bool) (t7 : Int) (h0 : List AV) (h1 : List AV) : Option (ByteArray × List AV) :=
  Option.bind (x9digitsF (AV.asInts (aget (AV.flds (aget h0 0)) 2), t7, AV.toBool (aget (AV.flds (aget h0 0)) 8))) fun t =>
  Option.bind (x9digitsF (AV.asInts (aget (AV.flds (aget h0 0)) 3), t7, AV.toBool (aget (AV.flds (aget h0 0)) 8))) fun t_1 =>
    bif decide (t4 = (2 : Int)) then
      bif strEq t (strOfI []) then bif strEq t_1 (strOfI []) then l27 t5 t6 (strOfI [(55 : Int)]) (strOfI [(48 : Int), (50 : Int)]) h0 h1 else l27 t5 t6 (strOfI [(55 : Int)]) t_1 h0 h1
      else bif strEq t_1 (strOfI []) then l27 t5 t6 t (strOfI [(48 : Int), (50 : Int)]) h0 h1 else l27 t5 t6 t t_1 h0 h1
    else bif strEq t (strOfI []) then bif strEq t_1 (strOfI []) then l33 t4 t5 t6 (strOfI [(48 : Int)]) t_1 h0 h1 else l33 t4 t5 t6 t t_1 h0 h1 else l33 t4 t5 t6 t t_1 h0 h1
def x9made_b27 (l15 : Int → ByteArray → Bool → Int → List AV → List AV → Option (ByteArray × List AV)) (l27 : ByteArray → Bool → ByteArray → ByteArray → List AV → List AV → Option (ByteArray × List AV)) (l33 : Int → ByteArray → Bool → ByteArray → ByteArray → List AV → List AV → Option (ByteArray × List AV)) (l39 : Int → ByteArray → Bool → ByteArray → ByteArray → ByteArray → List AV → List AV → Option (ByteArray × List AV)) (l47 : Int → ByteArray → Bool → ByteArray → ByteArray → ByteArray → Int → Int → List AV → List AV → Option (ByteArray × List AV)) (t5 : ByteArray) (t6 : Bool) (t8 : ByteArray) (t9 : ByteArray) (h0 : List AV) (h1 : List AV) : Option (ByteArray × List AV) :=
  bif decide (ByteArray.size t5 + ByteArray.size t8 ≤ nat_lit 9223372036854775807) then
  bif decide (ByteArray.size (strCat t5 t8) + nat_lit 1 ≤ nat_lit 9223372036854775807) then
    bif decide (ByteArray.size (strCat (strCat t5 t8) (strOfI [(47 : Int)])) + ByteArray.size t9 ≤ nat_lit 9223372036854775807) then
      Option.bind (x9bareF t8) fun t =>
        Option.bind (x9bareF t9) fun t_1 =>
          some
            (strCat (strCat (strCat t5 t8) (strOfI [(47 : Int)])) t9,
              [AV.int .i64
                  (AV.toInt
                    (aget (AV.flds (aget (List.set h1 0 (AV.agg [AV.int .i64 (3 : Int), AV.bool t6, AV.str t, AV.int .i64 (0 : Int), AV.str t_1])) 0)) 0)),
                AV.bool
                  (AV.toBool
                    (aget (AV.flds (aget (List.set h1 0 (AV.agg [AV.int .i64 (3 : Int), AV.bool t6, AV.str t, AV.int .i64 (0 : Int), AV.str t_1])) 0)) 1)),
                AV.str
                  (AV.toStr
                    (aget (AV.flds (aget (List.set h1 0 (AV.agg [AV.int .i64 (3 : Int), AV.bool t6, AV.str t, AV.int .i64 (0 : Int), AV.str t_1])) 0)) 2)),
                AV.int .i64
                  (AV.toInt
                    (aget (AV.flds (aget (List.set h1 0 (AV.agg [AV.int .i64 (3 : Int), AV.bool t6, AV.str t, AV.int .i64 (0 : Int), AV.str t_1])) 0)) 3)),
                AV.str
                  (AV.toStr
                    (aget (AV.flds (aget (List.set h1 0 (AV.agg [AV.int .i64 (3 : Int), AV.bool t6, AV.str t, AV.int .i64 (0 : Int), AV.str t_1])) 0)) 4))])
    else none
  else none
else none
def x9made_b33 (l15 : Int → ByteArray → Bool → Int → List AV → List AV → Option (ByteArray × List AV)) (l27 : ByteArray → Bool → ByteArray → ByteArray → List AV → List AV → Option (ByteArray × List AV)) (l33 : Int → ByteArray → Bool → ByteArray → ByteArray → List AV → List AV → Option (ByteArray × List AV)) (l39 : Int → ByteArray → Bool → ByteArray → ByteArray → ByteArray → List AV → List AV → Option (ByteArray × List AV)) (l47 : Int → ByteArray → Bool → ByteArray → ByteArray → ByteArray → Int → Int → List AV → List AV → Option (ByteArray × List AV)) (t4 : Int) (t5 : ByteArray) (t6 : Bool) (t8 : ByteArray) (t9 : ByteArray) (h0 : List AV) (h1 : List AV) : Option (ByteArray × List AV) :=
  bif !strEq t9 (strOfI []) then
  bif decide (ByteArray.size t8 + nat_lit 1 ≤ nat_lit 9223372036854775807) then
    bif decide (ByteArray.size (strCat t8 (strOfI [(46 : Int)])) + ByteArray.size t9 ≤ nat_lit 9223372036854775807) then l39 t4 t5 t6 t8 t9 (strCat (strCat t8 (strOfI [(46 : Int)])) t9) h0 h1
    else none
  else none
else
  bif AV.toBool (aget (AV.flds (aget h0 0)) 4) then
    bif decide (ByteArray.size t8 + nat_lit 1 ≤ nat_lit 9223372036854775807) then
      bif decide (ByteArray.size (strCat t8 (strOfI [(46 : Int)])) + ByteArray.size t9 ≤ nat_lit 9223372036854775807) then l39 t4 t5 t6 t8 t9 (strCat (strCat t8 (strOfI [(46 : Int)])) t9) h0 h1
      else none
    else none
  else l39 t4 t5 t6 t8 t9 t8 h0 h1
def x9made_b39 (l15 : Int → ByteArray → Bool → Int → List AV → List AV → Option (ByteArray × List AV)) (l27 : ByteArray → Bool → ByteArray → ByteArray → List AV → List AV → Option (ByteArray × List AV)) (l33 : Int → ByteArray → Bool → ByteArray → ByteArray → List AV → List AV → Option (ByteArray × List AV)) (l39 : Int → ByteArray → Bool → ByteArray → ByteArray → ByteArray → List AV → List AV → Option (ByteArray × List AV)) (l47 : Int → ByteArray → Bool → ByteArray → ByteArray → ByteArray → Int → Int → List AV → List AV → Option (ByteArray × List AV)) (t4 : Int) (t5 : ByteArray) (t6 : Bool) (t8 : ByteArray) (t9 : ByteArray) (t10 : ByteArray) (h0 : List AV) (h1 : List AV) : Option (ByteArray × List AV) :=
  bif decide (remI (AV.toInt (aget (AV.flds (aget h0 0)) 6)) (100000 : Int) < (0 : Int)) then
  l47 t4 t5 t6 t8 t9 t10 (remI (AV.toInt (aget (AV.flds (aget h0 0)) 6)) (100000 : Int))
    (subI .i64 (0 : Int) (remI (AV.toInt (aget (AV.flds (aget h0 0)) 6)) (100000 : Int))) h0 h1
else
  l47 t4 t5 t6 t8 t9 t10 (remI (AV.toInt (aget (AV.flds (aget h0 0)) 6)) (100000 : Int)) (remI (AV.toInt (aget (AV.flds (aget h0 0)) 6)) (100000 : Int)) h0 h1
def x9made_b47 (l15 : Int → ByteArray → Bool → Int → List AV → List AV → Option (ByteArray × List AV)) (l27 : ByteArray → Bool → ByteArray → ByteArray → List AV → List AV → Option (ByteArray × List AV)) (l33 : Int → ByteArray → Bool → ByteArray → ByteArray → List AV → List AV → Option (ByteArray × List AV)) (l39 : Int → ByteArray → Bool → ByteArray → ByteArray → ByteArray → List AV → List AV → Option (ByteArray × List AV)) (l47 : Int → ByteArray → Bool → ByteArray → ByteArray → ByteArray → Int → Int → List AV → List AV → Option (ByteArray × List AV)) (t4 : Int) (t5 : ByteArray) (t6 : Bool) (t8 : ByteArray) (t9 : ByteArray) (t10 : ByteArray) (t11 : Int) (t12 : Int) (h0 : List AV) (h1 : List AV) : Option (ByteArray × List AV) :=
  Option.bind (x9signF (t11, AV.toBool (aget (AV.flds (aget h0 0)) 7))) fun t =>
  Option.bind (x9numF t12) fun t_1 =>
    bif decide (ByteArray.size t + ByteArray.size t_1 ≤ nat_lit 9223372036854775807) then
      bif decide (ByteArray.size t8 + ByteArray.size t9 ≤ nat_lit 9223372036854775807) then
        Option.bind (x9bareF (strCat t8 t9)) fun t_2 =>
          bif decide (t4 = (1 : Int)) then
            bif AV.toBool (aget (AV.flds (aget h0 0)) 8) then
              bif decide (ByteArray.size t5 + nat_lit 2 ≤ nat_lit 9223372036854775807) then
                bif decide (ByteArray.size (strCat t5 (strOfI [(48 : Int), (88 : Int)])) + ByteArray.size t10 ≤ nat_lit 9223372036854775807) then
                  bif decide (ByteArray.size (strCat (strCat t5 (strOfI [(48 : Int), (88 : Int)])) t10) + nat_lit 1 ≤ nat_lit 9223372036854775807) then
                    bif
                        decide
                          (ByteArray.size (strCat (strCat (strCat t5 (strOfI [(48 : Int), (88 : Int)])) t10) (strOfI [(80 : Int)])) + ByteArray.size (strCat t t_1) ≤ nat_lit 9223372036854775807) then
                      some
                        (strCat (strCat (strCat (strCat t5 (strOfI [(48 : Int), (88 : Int)])) t10) (strOfI [(80 : Int)])) (strCat t t_1),
                          [AV.int .i64
                              (AV.toInt
                                (aget
                                  (AV.flds
                                    (aget
                                      (List.set h1 0
                                        (AV.agg
                                          [AV.int .i64 (2 : Int), AV.bool t6, AV.str t_2, AV.int .i64 (subI .i64 t11 (mulI .i64 (4 : Int) (↑(ByteArray.size t9) : Int))),
                                            AV.str (strOfI [])]))
                                      0))
                                  0)),
                            AV.bool
                              (AV.toBool
                                (aget
                                  (AV.flds
                                    (aget
                                      (List.set h1 0
                                        (AV.agg
                                          [AV.int .i64 (2 : Int), AV.bool t6, AV.str t_2, AV.int .i64 (subI .i64 t11 (mulI .i64 (4 : Int) (↑(ByteArray.size t9) : Int))),
                                            AV.str (strOfI [])]))
                                      0))
                                  1)),
                            AV.str
                              (AV.toStr
                                (aget
                                  (AV.flds
                                    (aget
                                      (List.set h1 0
                                        (AV.agg
                                          [AV.int .i64 (2 : Int), AV.bool t6, AV.str t_2, AV.int .i64 (subI .i64 t11 (mulI .i64 (4 : Int) (↑(ByteArray.size t9) : Int))),
                                            AV.str (strOfI [])]))
                                      0))
                                  2)),
                            AV.int .i64
                              (AV.toInt
                                (aget
                                  (AV.flds
                                    (aget
                                      (List.set h1 0
                                        (AV.agg
                                          [AV.int .i64 (2 : Int), AV.bool t6, AV.str t_2, AV.int .i64 (subI .i64 t11 (mulI .i64 (4 : Int) (↑(ByteArray.size t9) : Int))),
                                            AV.str (strOfI [])]))
                                      0))
                                  3)),
                            AV.str
                              (AV.toStr
                                (aget
                                  (AV.flds
                                    (aget
                                      (List.set h1 0
                                        (AV.agg
                                          [AV.int .i64 (2 : Int), AV.bool t6, AV.str t_2, AV.int .i64 (subI .i64 t11 (mulI .i64 (4 : Int) (↑(ByteArray.size t9) : Int))),
                                            AV.str (strOfI [])]))
                                      0))
                                  4))])
                    else none
                  else none
                else none
              else none
            else
              bif decide (ByteArray.size t5 + nat_lit 2 ≤ nat_lit 9223372036854775807) then
                bif decide (ByteArray.size (strCat t5 (strOfI [(48 : Int), (120 : Int)])) + ByteArray.size t10 ≤ nat_lit 9223372036854775807) then
                  bif decide (ByteArray.size (strCat (strCat t5 (strOfI [(48 : Int), (120 : Int)])) t10) + nat_lit 1 ≤ nat_lit 9223372036854775807) then
                    bif
                        decide
                          (ByteArray.size (strCat (strCat (strCat t5 (strOfI [(48 : Int), (120 : Int)])) t10) (strOfI [(112 : Int)])) + ByteArray.size (strCat t t_1) ≤
                            nat_lit 9223372036854775807) then
                      some
                        (strCat (strCat (strCat (strCat t5 (strOfI [(48 : Int), (120 : Int)])) t10) (strOfI [(112 : Int)])) (strCat t t_1),
                          [AV.int .i64
                              (AV.toInt
                                (aget
                                  (AV.flds
                                    (aget
                                      (List.set h1 0
                                        (AV.agg
                                          [AV.int .i64 (2 : Int), AV.bool t6, AV.str t_2, AV.int .i64 (subI .i64 t11 (mulI .i64 (4 : Int) (↑(ByteArray.size t9) : Int))),
                                            AV.str (strOfI [])]))
                                      0))
                                  0)),
                            AV.bool
                              (AV.toBool
                                (aget
                                  (AV.flds
                                    (aget
                                      (List.set h1 0
                                        (AV.agg
                                          [AV.int .i64 (2 : Int), AV.bool t6, AV.str t_2, AV.int .i64 (subI .i64 t11 (mulI .i64 (4 : Int) (↑(ByteArray.size t9) : Int))),
                                            AV.str (strOfI [])]))
                                      0))
                                  1)),
                            AV.str
                              (AV.toStr
                                (aget
                                  (AV.flds
                                    (aget
                                      (List.set h1 0
                                        (AV.agg
                                          [AV.int .i64 (2 : Int), AV.bool t6, AV.str t_2, AV.int .i64 (subI .i64 t11 (mulI .i64 (4 : Int) (↑(ByteArray.size t9) : Int))),
                                            AV.str (strOfI [])]))
                                      0))
                                  2)),
                            AV.int .i64
                              (AV.toInt
                                (aget
                                  (AV.flds
                                    (aget
                                      (List.set h1 0
                                        (AV.agg
                                          [AV.int .i64 (2 : Int), AV.bool t6, AV.str t_2, AV.int .i64 (subI .i64 t11 (mulI .i64 (4 : Int) (↑(ByteArray.size t9) : Int))),
                                            AV.str (strOfI [])]))
                                      0))
                                  3)),
                            AV.str
                              (AV.toStr
                                (aget
                                  (AV.flds
                                    (aget
                                      (List.set h1 0
                                        (AV.agg
                                          [AV.int .i64 (2 : Int), AV.bool t6, AV.str t_2, AV.int .i64 (subI .i64 t11 (mulI .i64 (4 : Int) (↑(ByteArray.size t9) : Int))),
                                            AV.str (strOfI [])]))
                                      0))
                                  4))])
                    else none
                  else none
                else none
              else none
          else
            bif AV.toBool (aget (AV.flds (aget h0 0)) 5) then
              bif decide (ByteArray.size t5 + ByteArray.size t10 ≤ nat_lit 9223372036854775807) then
                some
                  (strCat t5 t10,
                    [AV.int .i64
                        (AV.toInt
                          (aget
                            (AV.flds
                              (aget
                                (List.set h1 0
                                  (AV.agg [AV.int .i64 (1 : Int), AV.bool t6, AV.str t_2, AV.int .i64 (subI .i64 (0 : Int) (↑(ByteArray.size t9) : Int)), AV.str (strOfI [])]))
                                0))
                            0)),
                      AV.bool
                        (AV.toBool
                          (aget
                            (AV.flds
                              (aget
                                (List.set h1 0
                                  (AV.agg [AV.int .i64 (1 : Int), AV.bool t6, AV.str t_2, AV.int .i64 (subI .i64 (0 : Int) (↑(ByteArray.size t9) : Int)), AV.str (strOfI [])]))
                                0))
                            1)),
                      AV.str
                        (AV.toStr
                          (aget
                            (AV.flds
                              (aget
                                (List.set h1 0
                                  (AV.agg [AV.int .i64 (1 : Int), AV.bool t6, AV.str t_2, AV.int .i64 (subI .i64 (0 : Int) (↑(ByteArray.size t9) : Int)), AV.str (strOfI [])]))
                                0))
                            2)),
                      AV.int .i64
                        (AV.toInt
                          (aget
                            (AV.flds
                              (aget
                                (List.set h1 0
                                  (AV.agg [AV.int .i64 (1 : Int), AV.bool t6, AV.str t_2, AV.int .i64 (subI .i64 (0 : Int) (↑(ByteArray.size t9) : Int)), AV.str (strOfI [])]))
                                0))
                            3)),
                      AV.str
                        (AV.toStr
                          (aget
                            (AV.flds
                              (aget
                                (List.set h1 0
                                  (AV.agg [AV.int .i64 (1 : Int), AV.bool t6, AV.str t_2, AV.int .i64 (subI .i64 (0 : Int) (↑(ByteArray.size t9) : Int)), AV.str (strOfI [])]))
                                0))
                            4))])
              else none
            else
              bif AV.toBool (aget (AV.flds (aget h0 0)) 8) then
                bif decide (ByteArray.size t5 + ByteArray.size t10 ≤ nat_lit 9223372036854775807) then
                  bif decide (ByteArray.size (strCat t5 t10) + nat_lit 1 ≤ nat_lit 9223372036854775807) then
                    bif decide (ByteArray.size (strCat (strCat t5 t10) (strOfI [(69 : Int)])) + ByteArray.size (strCat t t_1) ≤ nat_lit 9223372036854775807) then
                      some
                        (strCat (strCat (strCat t5 t10) (strOfI [(69 : Int)])) (strCat t t_1),
                          [AV.int .i64
                              (AV.toInt
                                (aget
                                  (AV.flds
                                    (aget
                                      (List.set h1 0
                                        (AV.agg [AV.int .i64 (1 : Int), AV.bool t6, AV.str t_2, AV.int .i64 (subI .i64 t11 (↑(ByteArray.size t9) : Int)), AV.str (strOfI [])]))
                                      0))
                                  0)),
                            AV.bool
                              (AV.toBool
                                (aget
                                  (AV.flds
                                    (aget
                                      (List.set h1 0
                                        (AV.agg [AV.int .i64 (1 : Int), AV.bool t6, AV.str t_2, AV.int .i64 (subI .i64 t11 (↑(ByteArray.size t9) : Int)), AV.str (strOfI [])]))
                                      0))
                                  1)),
                            AV.str
                              (AV.toStr
                                (aget
                                  (AV.flds
                                    (aget
                                      (List.set h1 0
                                        (AV.agg [AV.int .i64 (1 : Int), AV.bool t6, AV.str t_2, AV.int .i64 (subI .i64 t11 (↑(ByteArray.size t9) : Int)), AV.str (strOfI [])]))
                                      0))
                                  2)),
                            AV.int .i64
                              (AV.toInt
                                (aget
                                  (AV.flds
                                    (aget
                                      (List.set h1 0
                                        (AV.agg [AV.int .i64 (1 : Int), AV.bool t6, AV.str t_2, AV.int .i64 (subI .i64 t11 (↑(ByteArray.size t9) : Int)), AV.str (strOfI [])]))
                                      0))
                                  3)),
                            AV.str
                              (AV.toStr
                                (aget
                                  (AV.flds
                                    (aget
                                      (List.set h1 0
                                        (AV.agg [AV.int .i64 (1 : Int), AV.bool t6, AV.str t_2, AV.int .i64 (subI .i64 t11 (↑(ByteArray.size t9) : Int)), AV.str (strOfI [])]))
                                      0))
                                  4))])
                    else none
                  else none
                else none
              else
                bif decide (ByteArray.size t5 + ByteArray.size t10 ≤ nat_lit 9223372036854775807) then
                  bif decide (ByteArray.size (strCat t5 t10) + nat_lit 1 ≤ nat_lit 9223372036854775807) then
                    bif decide (ByteArray.size (strCat (strCat t5 t10) (strOfI [(101 : Int)])) + ByteArray.size (strCat t t_1) ≤ nat_lit 9223372036854775807) then
                      some
                        (strCat (strCat (strCat t5 t10) (strOfI [(101 : Int)])) (strCat t t_1),
                          [AV.int .i64
                              (AV.toInt
                                (aget
                                  (AV.flds
                                    (aget
                                      (List.set h1 0
                                        (AV.agg [AV.int .i64 (1 : Int), AV.bool t6, AV.str t_2, AV.int .i64 (subI .i64 t11 (↑(ByteArray.size t9) : Int)), AV.str (strOfI [])]))
                                      0))
                                  0)),
                            AV.bool
                              (AV.toBool
                                (aget
                                  (AV.flds
                                    (aget
                                      (List.set h1 0
                                        (AV.agg [AV.int .i64 (1 : Int), AV.bool t6, AV.str t_2, AV.int .i64 (subI .i64 t11 (↑(ByteArray.size t9) : Int)), AV.str (strOfI [])]))
                                      0))
                                  1)),
                            AV.str
                              (AV.toStr
                                (aget
                                  (AV.flds
                                    (aget
                                      (List.set h1 0
                                        (AV.agg [AV.int .i64 (1 : Int), AV.bool t6, AV.str t_2, AV.int .i64 (subI .i64 t11 (↑(ByteArray.size t9) : Int)), AV.str (strOfI [])]))
                                      0))
                                  2)),
                            AV.int .i64
                              (AV.toInt
                                (aget
                                  (AV.flds
                                    (aget
                                      (List.set h1 0
                                        (AV.agg [AV.int .i64 (1 : Int), AV.bool t6, AV.str t_2, AV.int .i64 (subI .i64 t11 (↑(ByteArray.size t9) : Int)), AV.str (strOfI [])]))
                                      0))
                                  3)),
                            AV.str
                              (AV.toStr
                                (aget
                                  (AV.flds
                                    (aget
                                      (List.set h1 0
                                        (AV.agg [AV.int .i64 (1 : Int), AV.bool t6, AV.str t_2, AV.int .i64 (subI .i64 t11 (↑(ByteArray.size t9) : Int)), AV.str (strOfI [])]))
                                      0))
                                  4))])
                    else none
                  else none
                else none
      else none
    else none
mutual
def x9made_L15 : Nat → Int → ByteArray → Bool → Int → (List AV) → (List AV) → Option (ByteArray × List AV)
  | 0, _, _, _, _, _, _ => none
  | k + 1, t4, t5, t6, t7, h0, h1 => x9made_b15 (x9made_L15 k) (x9made_L27 k) (x9made_L33 k) (x9made_L39 k) (x9made_L47 k) t4 t5 t6 t7 h0 h1
def x9made_L27 : Nat → ByteArray → Bool → ByteArray → ByteArray → (List AV) → (List AV) → Option (ByteArray × List AV)
  | 0, _, _, _, _, _, _ => none
  | k + 1, t5, t6, t8, t9, h0, h1 => x9made_b27 (x9made_L15 k) (x9made_L27 k) (x9made_L33 k) (x9made_L39 k) (x9made_L47 k) t5 t6 t8 t9 h0 h1
def x9made_L33 : Nat → Int → ByteArray → Bool → ByteArray → ByteArray → (List AV) → (List AV) → Option (ByteArray × List AV)
  | 0, _, _, _, _, _, _, _ => none
  | k + 1, t4, t5, t6, t8, t9, h0, h1 => x9made_b33 (x9made_L15 k) (x9made_L27 k) (x9made_L33 k) (x9made_L39 k) (x9made_L47 k) t4 t5 t6 t8 t9 h0 h1
def x9made_L39 : Nat → Int → ByteArray → Bool → ByteArray → ByteArray → ByteArray → (List AV) → (List AV) → Option (ByteArray × List AV)
  | 0, _, _, _, _, _, _, _, _ => none
  | k + 1, t4, t5, t6, t8, t9, t10, h0, h1 => x9made_b39 (x9made_L15 k) (x9made_L27 k) (x9made_L33 k) (x9made_L39 k) (x9made_L47 k) t4 t5 t6 t8 t9 t10 h0 h1
def x9made_L47 : Nat → Int → ByteArray → Bool → ByteArray → ByteArray → ByteArray → Int → Int → (List AV) → (List AV) → Option (ByteArray × List AV)
  | 0, _, _, _, _, _, _, _, _, _, _ => none
  | k + 1, t4, t5, t6, t8, t9, t10, t11, t12, h0, h1 => x9made_b47 (x9made_L15 k) (x9made_L27 k) (x9made_L33 k) (x9made_L39 k) (x9made_L47 k) t4 t5 t6 t8 t9 t10 t11 t12 h0 h1
end
noncomputable def x9made_E : Env (dens [.str, .st [.int .i64, .bool, .str, .int .i64, .str]]) := envR S.tab [(28, mkF [.int .i64, .int .i64] [.int .i64] into9F), (82, mkF [.int .i64, .bool] [.str] x9signF), (33, mkF [.sl (.int .i64), .int .i64, .bool] [.str] x9digitsF), (83, mkF [.str] [.str] x9bareF), (84, mkF [.int .i64] [.str] x9numF)] Tryz.f30 [.tmp 2, .cell 3 23] [.str, .st [.int .i64, .bool, .str, .int .i64, .str]]
theorem x9made_s0 (r : Rec (dens [.str, .st [.int .i64, .bool, .str, .int .i64, .str]])) (a : List AV) : evT x9made_E x9made_h r 3000 false [.code (bodyOf Tryz.f30)] (T0 0 [.agg (etaL [.int .i64, .int .i64, .sl (.int .i64), .sl (.int .i64), .bool, .bool, .int .i64, .bool, .bool] 0 a)]) [] = x9made_b0 (fun t4 t5 t6 t7 h0 h1 => r (todoOf 15 (bodyOf Tryz.f30)) [(1, AV.ptr 0 9 0 0), (3, AV.ptr 1 5 0 0), (4, AV.int .i64 t4), (5, AV.str t5),
  (6, AV.bool t6), (7, AV.int .i64 t7)] [Blk.A 50 (ETy.st [ETy.int .i64, ETy.int .i64, ETy.sl (ETy.int .i64), ETy.sl (ETy.int .i64), ETy.bool, ETy.bool, ETy.int .i64, ETy.bool, ETy.bool]) h0,
  Blk.A 23 (ETy.st [ETy.int .i64, ETy.bool, ETy.str, ETy.int .i64, ETy.str]) h1]) (fun t5 t6 t8 t9 h0 h1 => r (todoOf 27 (bodyOf Tryz.f30)) [(3, AV.ptr 1 5 0 0), (5, AV.str t5), (6, AV.bool t6), (8, AV.str t8), (9, AV.str t9)] [Blk.A 50 (ETy.st [ETy.int .i64, ETy.int .i64, ETy.sl (ETy.int .i64), ETy.sl (ETy.int .i64), ETy.bool, ETy.bool, ETy.int .i64, ETy.bool, ETy.bool]) h0,
  Blk.A 23 (ETy.st [ETy.int .i64, ETy.bool, ETy.str, ETy.int .i64, ETy.str]) h1]) (fun t4 t5 t6 t8 t9 h0 h1 => r (todoOf 33 (bodyOf Tryz.f30)) [(1, AV.ptr 0 9 0 0), (3, AV.ptr 1 5 0 0), (4, AV.int .i64 t4), (5, AV.str t5),
  (6, AV.bool t6), (8, AV.str t8), (9, AV.str t9)] [Blk.A 50 (ETy.st [ETy.int .i64, ETy.int .i64, ETy.sl (ETy.int .i64), ETy.sl (ETy.int .i64), ETy.bool, ETy.bool, ETy.int .i64, ETy.bool, ETy.bool]) h0,
  Blk.A 23 (ETy.st [ETy.int .i64, ETy.bool, ETy.str, ETy.int .i64, ETy.str]) h1]) (fun t4 t5 t6 t8 t9 t10 h0 h1 => r (todoOf 39 (bodyOf Tryz.f30)) [(1, AV.ptr 0 9 0 0), (3, AV.ptr 1 5 0 0), (4, AV.int .i64 t4), (5, AV.str t5),
  (6, AV.bool t6), (8, AV.str t8), (9, AV.str t9), (10, AV.str t10)] [Blk.A 50 (ETy.st [ETy.int .i64, ETy.int .i64, ETy.sl (ETy.int .i64), ETy.sl (ETy.int .i64), ETy.bool, ETy.bool, ETy.int .i64, ETy.bool, ETy.bool]) h0,
  Blk.A 23 (ETy.st [ETy.int .i64, ETy.bool, ETy.str, ETy.int .i64, ETy.str]) h1]) (fun t4 t5 t6 t8 t9 t10 t11 t12 h0 h1 => r (todoOf 47 (bodyOf Tryz.f30)) [(1, AV.ptr 0 9 0 0), (3, AV.ptr 1 5 0 0), (4, AV.int .i64 t4), (5, AV.str t5),
  (6, AV.bool t6), (8, AV.str t8), (9, AV.str t9), (10, AV.str t10), (11, AV.int .i64 t11), (12, AV.int .i64 t12)] [Blk.A 50 (ETy.st [ETy.int .i64, ETy.int .i64, ETy.sl (ETy.int .i64), ETy.sl (ETy.int .i64), ETy.bool, ETy.bool, ETy.int .i64, ETy.bool, ETy.bool]) h0,
  Blk.A 23 (ETy.st [ETy.int .i64, ETy.bool, ETy.str, ETy.int .i64, ETy.str]) h1]) a := by kernel_rfl
theorem x9made_s15 (r : Rec (dens [.str, .st [.int .i64, .bool, .str, .int .i64, .str]])) (t4 : Int) (t5 : ByteArray) (t6 : Bool) (t7 : Int) (h0 : List AV) (h1 : List AV) : evT x9made_E x9made_h r 3000 true (todoOf 15 (bodyOf Tryz.f30)) [(1, AV.ptr 0 9 0 0), (3, AV.ptr 1 5 0 0), (4, AV.int .i64 t4), (5, AV.str t5),
  (6, AV.bool t6), (7, AV.int .i64 t7)] [Blk.A 50 (ETy.st [ETy.int .i64, ETy.int .i64, ETy.sl (ETy.int .i64), ETy.sl (ETy.int .i64), ETy.bool, ETy.bool, ETy.int .i64, ETy.bool, ETy.bool]) h0,
  Blk.A 23 (ETy.st [ETy.int .i64, ETy.bool, ETy.str, ETy.int .i64, ETy.str]) h1] = x9made_b15 (fun t4 t5 t6 t7 h0 h1 => r (todoOf 15 (bodyOf Tryz.f30)) [(1, AV.ptr 0 9 0 0), (3, AV.ptr 1 5 0 0), (4, AV.int .i64 t4), (5, AV.str t5),
  (6, AV.bool t6), (7, AV.int .i64 t7)] [Blk.A 50 (ETy.st [ETy.int .i64, ETy.int .i64, ETy.sl (ETy.int .i64), ETy.sl (ETy.int .i64), ETy.bool, ETy.bool, ETy.int .i64, ETy.bool, ETy.bool]) h0,
  Blk.A 23 (ETy.st [ETy.int .i64, ETy.bool, ETy.str, ETy.int .i64, ETy.str]) h1]) (fun t5 t6 t8 t9 h0 h1 => r (todoOf 27 (bodyOf Tryz.f30)) [(3, AV.ptr 1 5 0 0), (5, AV.str t5), (6, AV.bool t6), (8, AV.str t8), (9, AV.str t9)] [Blk.A 50 (ETy.st [ETy.int .i64, ETy.int .i64, ETy.sl (ETy.int .i64), ETy.sl (ETy.int .i64), ETy.bool, ETy.bool, ETy.int .i64, ETy.bool, ETy.bool]) h0,
  Blk.A 23 (ETy.st [ETy.int .i64, ETy.bool, ETy.str, ETy.int .i64, ETy.str]) h1]) (fun t4 t5 t6 t8 t9 h0 h1 => r (todoOf 33 (bodyOf Tryz.f30)) [(1, AV.ptr 0 9 0 0), (3, AV.ptr 1 5 0 0), (4, AV.int .i64 t4), (5, AV.str t5),
  (6, AV.bool t6), (8, AV.str t8), (9, AV.str t9)] [Blk.A 50 (ETy.st [ETy.int .i64, ETy.int .i64, ETy.sl (ETy.int .i64), ETy.sl (ETy.int .i64), ETy.bool, ETy.bool, ETy.int .i64, ETy.bool, ETy.bool]) h0,
  Blk.A 23 (ETy.st [ETy.int .i64, ETy.bool, ETy.str, ETy.int .i64, ETy.str]) h1]) (fun t4 t5 t6 t8 t9 t10 h0 h1 => r (todoOf 39 (bodyOf Tryz.f30)) [(1, AV.ptr 0 9 0 0), (3, AV.ptr 1 5 0 0), (4, AV.int .i64 t4), (5, AV.str t5),
  (6, AV.bool t6), (8, AV.str t8), (9, AV.str t9), (10, AV.str t10)] [Blk.A 50 (ETy.st [ETy.int .i64, ETy.int .i64, ETy.sl (ETy.int .i64), ETy.sl (ETy.int .i64), ETy.bool, ETy.bool, ETy.int .i64, ETy.bool, ETy.bool]) h0,
  Blk.A 23 (ETy.st [ETy.int .i64, ETy.bool, ETy.str, ETy.int .i64, ETy.str]) h1]) (fun t4 t5 t6 t8 t9 t10 t11 t12 h0 h1 => r (todoOf 47 (bodyOf Tryz.f30)) [(1, AV.ptr 0 9 0 0), (3, AV.ptr 1 5 0 0), (4, AV.int .i64 t4), (5, AV.str t5),
  (6, AV.bool t6), (8, AV.str t8), (9, AV.str t9), (10, AV.str t10), (11, AV.int .i64 t11), (12, AV.int .i64 t12)] [Blk.A 50 (ETy.st [ETy.int .i64, ETy.int .i64, ETy.sl (ETy.int .i64), ETy.sl (ETy.int .i64), ETy.bool, ETy.bool, ETy.int .i64, ETy.bool, ETy.bool]) h0,
  Blk.A 23 (ETy.st [ETy.int .i64, ETy.bool, ETy.str, ETy.int .i64, ETy.str]) h1]) t4 t5 t6 t7 h0 h1 := by kernel_rfl
theorem x9made_s27 (r : Rec (dens [.str, .st [.int .i64, .bool, .str, .int .i64, .str]])) (t5 : ByteArray) (t6 : Bool) (t8 : ByteArray) (t9 : ByteArray) (h0 : List AV) (h1 : List AV) : evT x9made_E x9made_h r 3000 true (todoOf 27 (bodyOf Tryz.f30)) [(3, AV.ptr 1 5 0 0), (5, AV.str t5), (6, AV.bool t6), (8, AV.str t8), (9, AV.str t9)] [Blk.A 50 (ETy.st [ETy.int .i64, ETy.int .i64, ETy.sl (ETy.int .i64), ETy.sl (ETy.int .i64), ETy.bool, ETy.bool, ETy.int .i64, ETy.bool, ETy.bool]) h0,
  Blk.A 23 (ETy.st [ETy.int .i64, ETy.bool, ETy.str, ETy.int .i64, ETy.str]) h1] = x9made_b27 (fun t4 t5 t6 t7 h0 h1 => r (todoOf 15 (bodyOf Tryz.f30)) [(1, AV.ptr 0 9 0 0), (3, AV.ptr 1 5 0 0), (4, AV.int .i64 t4), (5, AV.str t5),
  (6, AV.bool t6), (7, AV.int .i64 t7)] [Blk.A 50 (ETy.st [ETy.int .i64, ETy.int .i64, ETy.sl (ETy.int .i64), ETy.sl (ETy.int .i64), ETy.bool, ETy.bool, ETy.int .i64, ETy.bool, ETy.bool]) h0,
  Blk.A 23 (ETy.st [ETy.int .i64, ETy.bool, ETy.str, ETy.int .i64, ETy.str]) h1]) (fun t5 t6 t8 t9 h0 h1 => r (todoOf 27 (bodyOf Tryz.f30)) [(3, AV.ptr 1 5 0 0), (5, AV.str t5), (6, AV.bool t6), (8, AV.str t8), (9, AV.str t9)] [Blk.A 50 (ETy.st [ETy.int .i64, ETy.int .i64, ETy.sl (ETy.int .i64), ETy.sl (ETy.int .i64), ETy.bool, ETy.bool, ETy.int .i64, ETy.bool, ETy.bool]) h0,
  Blk.A 23 (ETy.st [ETy.int .i64, ETy.bool, ETy.str, ETy.int .i64, ETy.str]) h1]) (fun t4 t5 t6 t8 t9 h0 h1 => r (todoOf 33 (bodyOf Tryz.f30)) [(1, AV.ptr 0 9 0 0), (3, AV.ptr 1 5 0 0), (4, AV.int .i64 t4), (5, AV.str t5),
  (6, AV.bool t6), (8, AV.str t8), (9, AV.str t9)] [Blk.A 50 (ETy.st [ETy.int .i64, ETy.int .i64, ETy.sl (ETy.int .i64), ETy.sl (ETy.int .i64), ETy.bool, ETy.bool, ETy.int .i64, ETy.bool, ETy.bool]) h0,
  Blk.A 23 (ETy.st [ETy.int .i64, ETy.bool, ETy.str, ETy.int .i64, ETy.str]) h1]) (fun t4 t5 t6 t8 t9 t10 h0 h1 => r (todoOf 39 (bodyOf Tryz.f30)) [(1, AV.ptr 0 9 0 0), (3, AV.ptr 1 5 0 0), (4, AV.int .i64 t4), (5, AV.str t5),
  (6, AV.bool t6), (8, AV.str t8), (9, AV.str t9), (10, AV.str t10)] [Blk.A 50 (ETy.st [ETy.int .i64, ETy.int .i64, ETy.sl (ETy.int .i64), ETy.sl (ETy.int .i64), ETy.bool, ETy.bool, ETy.int .i64, ETy.bool, ETy.bool]) h0,
  Blk.A 23 (ETy.st [ETy.int .i64, ETy.bool, ETy.str, ETy.int .i64, ETy.str]) h1]) (fun t4 t5 t6 t8 t9 t10 t11 t12 h0 h1 => r (todoOf 47 (bodyOf Tryz.f30)) [(1, AV.ptr 0 9 0 0), (3, AV.ptr 1 5 0 0), (4, AV.int .i64 t4), (5, AV.str t5),
  (6, AV.bool t6), (8, AV.str t8), (9, AV.str t9), (10, AV.str t10), (11, AV.int .i64 t11), (12, AV.int .i64 t12)] [Blk.A 50 (ETy.st [ETy.int .i64, ETy.int .i64, ETy.sl (ETy.int .i64), ETy.sl (ETy.int .i64), ETy.bool, ETy.bool, ETy.int .i64, ETy.bool, ETy.bool]) h0,
  Blk.A 23 (ETy.st [ETy.int .i64, ETy.bool, ETy.str, ETy.int .i64, ETy.str]) h1]) t5 t6 t8 t9 h0 h1 := by kernel_rfl
theorem x9made_s33 (r : Rec (dens [.str, .st [.int .i64, .bool, .str, .int .i64, .str]])) (t4 : Int) (t5 : ByteArray) (t6 : Bool) (t8 : ByteArray) (t9 : ByteArray) (h0 : List AV) (h1 : List AV) : evT x9made_E x9made_h r 3000 true (todoOf 33 (bodyOf Tryz.f30)) [(1, AV.ptr 0 9 0 0), (3, AV.ptr 1 5 0 0), (4, AV.int .i64 t4), (5, AV.str t5),
  (6, AV.bool t6), (8, AV.str t8), (9, AV.str t9)] [Blk.A 50 (ETy.st [ETy.int .i64, ETy.int .i64, ETy.sl (ETy.int .i64), ETy.sl (ETy.int .i64), ETy.bool, ETy.bool, ETy.int .i64, ETy.bool, ETy.bool]) h0,
  Blk.A 23 (ETy.st [ETy.int .i64, ETy.bool, ETy.str, ETy.int .i64, ETy.str]) h1] = x9made_b33 (fun t4 t5 t6 t7 h0 h1 => r (todoOf 15 (bodyOf Tryz.f30)) [(1, AV.ptr 0 9 0 0), (3, AV.ptr 1 5 0 0), (4, AV.int .i64 t4), (5, AV.str t5),
  (6, AV.bool t6), (7, AV.int .i64 t7)] [Blk.A 50 (ETy.st [ETy.int .i64, ETy.int .i64, ETy.sl (ETy.int .i64), ETy.sl (ETy.int .i64), ETy.bool, ETy.bool, ETy.int .i64, ETy.bool, ETy.bool]) h0,
  Blk.A 23 (ETy.st [ETy.int .i64, ETy.bool, ETy.str, ETy.int .i64, ETy.str]) h1]) (fun t5 t6 t8 t9 h0 h1 => r (todoOf 27 (bodyOf Tryz.f30)) [(3, AV.ptr 1 5 0 0), (5, AV.str t5), (6, AV.bool t6), (8, AV.str t8), (9, AV.str t9)] [Blk.A 50 (ETy.st [ETy.int .i64, ETy.int .i64, ETy.sl (ETy.int .i64), ETy.sl (ETy.int .i64), ETy.bool, ETy.bool, ETy.int .i64, ETy.bool, ETy.bool]) h0,
  Blk.A 23 (ETy.st [ETy.int .i64, ETy.bool, ETy.str, ETy.int .i64, ETy.str]) h1]) (fun t4 t5 t6 t8 t9 h0 h1 => r (todoOf 33 (bodyOf Tryz.f30)) [(1, AV.ptr 0 9 0 0), (3, AV.ptr 1 5 0 0), (4, AV.int .i64 t4), (5, AV.str t5),
  (6, AV.bool t6), (8, AV.str t8), (9, AV.str t9)] [Blk.A 50 (ETy.st [ETy.int .i64, ETy.int .i64, ETy.sl (ETy.int .i64), ETy.sl (ETy.int .i64), ETy.bool, ETy.bool, ETy.int .i64, ETy.bool, ETy.bool]) h0,
  Blk.A 23 (ETy.st [ETy.int .i64, ETy.bool, ETy.str, ETy.int .i64, ETy.str]) h1]) (fun t4 t5 t6 t8 t9 t10 h0 h1 => r (todoOf 39 (bodyOf Tryz.f30)) [(1, AV.ptr 0 9 0 0), (3, AV.ptr 1 5 0 0), (4, AV.int .i64 t4), (5, AV.str t5),
  (6, AV.bool t6), (8, AV.str t8), (9, AV.str t9), (10, AV.str t10)] [Blk.A 50 (ETy.st [ETy.int .i64, ETy.int .i64, ETy.sl (ETy.int .i64), ETy.sl (ETy.int .i64), ETy.bool, ETy.bool, ETy.int .i64, ETy.bool, ETy.bool]) h0,
  Blk.A 23 (ETy.st [ETy.int .i64, ETy.bool, ETy.str, ETy.int .i64, ETy.str]) h1]) (fun t4 t5 t6 t8 t9 t10 t11 t12 h0 h1 => r (todoOf 47 (bodyOf Tryz.f30)) [(1, AV.ptr 0 9 0 0), (3, AV.ptr 1 5 0 0), (4, AV.int .i64 t4), (5, AV.str t5),
  (6, AV.bool t6), (8, AV.str t8), (9, AV.str t9), (10, AV.str t10), (11, AV.int .i64 t11), (12, AV.int .i64 t12)] [Blk.A 50 (ETy.st [ETy.int .i64, ETy.int .i64, ETy.sl (ETy.int .i64), ETy.sl (ETy.int .i64), ETy.bool, ETy.bool, ETy.int .i64, ETy.bool, ETy.bool]) h0,
  Blk.A 23 (ETy.st [ETy.int .i64, ETy.bool, ETy.str, ETy.int .i64, ETy.str]) h1]) t4 t5 t6 t8 t9 h0 h1 := by kernel_rfl
theorem x9made_s39 (r : Rec (dens [.str, .st [.int .i64, .bool, .str, .int .i64, .str]])) (t4 : Int) (t5 : ByteArray) (t6 : Bool) (t8 : ByteArray) (t9 : ByteArray) (t10 : ByteArray) (h0 : List AV) (h1 : List AV) : evT x9made_E x9made_h r 3000 true (todoOf 39 (bodyOf Tryz.f30)) [(1, AV.ptr 0 9 0 0), (3, AV.ptr 1 5 0 0), (4, AV.int .i64 t4), (5, AV.str t5),
  (6, AV.bool t6), (8, AV.str t8), (9, AV.str t9), (10, AV.str t10)] [Blk.A 50 (ETy.st [ETy.int .i64, ETy.int .i64, ETy.sl (ETy.int .i64), ETy.sl (ETy.int .i64), ETy.bool, ETy.bool, ETy.int .i64, ETy.bool, ETy.bool]) h0,
  Blk.A 23 (ETy.st [ETy.int .i64, ETy.bool, ETy.str, ETy.int .i64, ETy.str]) h1] = x9made_b39 (fun t4 t5 t6 t7 h0 h1 => r (todoOf 15 (bodyOf Tryz.f30)) [(1, AV.ptr 0 9 0 0), (3, AV.ptr 1 5 0 0), (4, AV.int .i64 t4), (5, AV.str t5),
  (6, AV.bool t6), (7, AV.int .i64 t7)] [Blk.A 50 (ETy.st [ETy.int .i64, ETy.int .i64, ETy.sl (ETy.int .i64), ETy.sl (ETy.int .i64), ETy.bool, ETy.bool, ETy.int .i64, ETy.bool, ETy.bool]) h0,
  Blk.A 23 (ETy.st [ETy.int .i64, ETy.bool, ETy.str, ETy.int .i64, ETy.str]) h1]) (fun t5 t6 t8 t9 h0 h1 => r (todoOf 27 (bodyOf Tryz.f30)) [(3, AV.ptr 1 5 0 0), (5, AV.str t5), (6, AV.bool t6), (8, AV.str t8), (9, AV.str t9)] [Blk.A 50 (ETy.st [ETy.int .i64, ETy.int .i64, ETy.sl (ETy.int .i64), ETy.sl (ETy.int .i64), ETy.bool, ETy.bool, ETy.int .i64, ETy.bool, ETy.bool]) h0,
  Blk.A 23 (ETy.st [ETy.int .i64, ETy.bool, ETy.str, ETy.int .i64, ETy.str]) h1]) (fun t4 t5 t6 t8 t9 h0 h1 => r (todoOf 33 (bodyOf Tryz.f30)) [(1, AV.ptr 0 9 0 0), (3, AV.ptr 1 5 0 0), (4, AV.int .i64 t4), (5, AV.str t5),
  (6, AV.bool t6), (8, AV.str t8), (9, AV.str t9)] [Blk.A 50 (ETy.st [ETy.int .i64, ETy.int .i64, ETy.sl (ETy.int .i64), ETy.sl (ETy.int .i64), ETy.bool, ETy.bool, ETy.int .i64, ETy.bool, ETy.bool]) h0,
  Blk.A 23 (ETy.st [ETy.int .i64, ETy.bool, ETy.str, ETy.int .i64, ETy.str]) h1]) (fun t4 t5 t6 t8 t9 t10 h0 h1 => r (todoOf 39 (bodyOf Tryz.f30)) [(1, AV.ptr 0 9 0 0), (3, AV.ptr 1 5 0 0), (4, AV.int .i64 t4), (5, AV.str t5),
  (6, AV.bool t6), (8, AV.str t8), (9, AV.str t9), (10, AV.str t10)] [Blk.A 50 (ETy.st [ETy.int .i64, ETy.int .i64, ETy.sl (ETy.int .i64), ETy.sl (ETy.int .i64), ETy.bool, ETy.bool, ETy.int .i64, ETy.bool, ETy.bool]) h0,
  Blk.A 23 (ETy.st [ETy.int .i64, ETy.bool, ETy.str, ETy.int .i64, ETy.str]) h1]) (fun t4 t5 t6 t8 t9 t10 t11 t12 h0 h1 => r (todoOf 47 (bodyOf Tryz.f30)) [(1, AV.ptr 0 9 0 0), (3, AV.ptr 1 5 0 0), (4, AV.int .i64 t4), (5, AV.str t5),
  (6, AV.bool t6), (8, AV.str t8), (9, AV.str t9), (10, AV.str t10), (11, AV.int .i64 t11), (12, AV.int .i64 t12)] [Blk.A 50 (ETy.st [ETy.int .i64, ETy.int .i64, ETy.sl (ETy.int .i64), ETy.sl (ETy.int .i64), ETy.bool, ETy.bool, ETy.int .i64, ETy.bool, ETy.bool]) h0,
  Blk.A 23 (ETy.st [ETy.int .i64, ETy.bool, ETy.str, ETy.int .i64, ETy.str]) h1]) t4 t5 t6 t8 t9 t10 h0 h1 := by kernel_rfl
theorem x9made_s47 (r : Rec (dens [.str, .st [.int .i64, .bool, .str, .int .i64, .str]])) (t4 : Int) (t5 : ByteArray) (t6 : Bool) (t8 : ByteArray) (t9 : ByteArray) (t10 : ByteArray) (t11 : Int) (t12 : Int) (h0 : List AV) (h1 : List AV) : evT x9made_E x9made_h r 3000 true (todoOf 47 (bodyOf Tryz.f30)) [(1, AV.ptr 0 9 0 0), (3, AV.ptr 1 5 0 0), (4, AV.int .i64 t4), (5, AV.str t5),
  (6, AV.bool t6), (8, AV.str t8), (9, AV.str t9), (10, AV.str t10), (11, AV.int .i64 t11), (12, AV.int .i64 t12)] [Blk.A 50 (ETy.st [ETy.int .i64, ETy.int .i64, ETy.sl (ETy.int .i64), ETy.sl (ETy.int .i64), ETy.bool, ETy.bool, ETy.int .i64, ETy.bool, ETy.bool]) h0,
  Blk.A 23 (ETy.st [ETy.int .i64, ETy.bool, ETy.str, ETy.int .i64, ETy.str]) h1] = x9made_b47 (fun t4 t5 t6 t7 h0 h1 => r (todoOf 15 (bodyOf Tryz.f30)) [(1, AV.ptr 0 9 0 0), (3, AV.ptr 1 5 0 0), (4, AV.int .i64 t4), (5, AV.str t5),
  (6, AV.bool t6), (7, AV.int .i64 t7)] [Blk.A 50 (ETy.st [ETy.int .i64, ETy.int .i64, ETy.sl (ETy.int .i64), ETy.sl (ETy.int .i64), ETy.bool, ETy.bool, ETy.int .i64, ETy.bool, ETy.bool]) h0,
  Blk.A 23 (ETy.st [ETy.int .i64, ETy.bool, ETy.str, ETy.int .i64, ETy.str]) h1]) (fun t5 t6 t8 t9 h0 h1 => r (todoOf 27 (bodyOf Tryz.f30)) [(3, AV.ptr 1 5 0 0), (5, AV.str t5), (6, AV.bool t6), (8, AV.str t8), (9, AV.str t9)] [Blk.A 50 (ETy.st [ETy.int .i64, ETy.int .i64, ETy.sl (ETy.int .i64), ETy.sl (ETy.int .i64), ETy.bool, ETy.bool, ETy.int .i64, ETy.bool, ETy.bool]) h0,
  Blk.A 23 (ETy.st [ETy.int .i64, ETy.bool, ETy.str, ETy.int .i64, ETy.str]) h1]) (fun t4 t5 t6 t8 t9 h0 h1 => r (todoOf 33 (bodyOf Tryz.f30)) [(1, AV.ptr 0 9 0 0), (3, AV.ptr 1 5 0 0), (4, AV.int .i64 t4), (5, AV.str t5),
  (6, AV.bool t6), (8, AV.str t8), (9, AV.str t9)] [Blk.A 50 (ETy.st [ETy.int .i64, ETy.int .i64, ETy.sl (ETy.int .i64), ETy.sl (ETy.int .i64), ETy.bool, ETy.bool, ETy.int .i64, ETy.bool, ETy.bool]) h0,
  Blk.A 23 (ETy.st [ETy.int .i64, ETy.bool, ETy.str, ETy.int .i64, ETy.str]) h1]) (fun t4 t5 t6 t8 t9 t10 h0 h1 => r (todoOf 39 (bodyOf Tryz.f30)) [(1, AV.ptr 0 9 0 0), (3, AV.ptr 1 5 0 0), (4, AV.int .i64 t4), (5, AV.str t5),
  (6, AV.bool t6), (8, AV.str t8), (9, AV.str t9), (10, AV.str t10)] [Blk.A 50 (ETy.st [ETy.int .i64, ETy.int .i64, ETy.sl (ETy.int .i64), ETy.sl (ETy.int .i64), ETy.bool, ETy.bool, ETy.int .i64, ETy.bool, ETy.bool]) h0,
  Blk.A 23 (ETy.st [ETy.int .i64, ETy.bool, ETy.str, ETy.int .i64, ETy.str]) h1]) (fun t4 t5 t6 t8 t9 t10 t11 t12 h0 h1 => r (todoOf 47 (bodyOf Tryz.f30)) [(1, AV.ptr 0 9 0 0), (3, AV.ptr 1 5 0 0), (4, AV.int .i64 t4), (5, AV.str t5),
  (6, AV.bool t6), (8, AV.str t8), (9, AV.str t9), (10, AV.str t10), (11, AV.int .i64 t11), (12, AV.int .i64 t12)] [Blk.A 50 (ETy.st [ETy.int .i64, ETy.int .i64, ETy.sl (ETy.int .i64), ETy.sl (ETy.int .i64), ETy.bool, ETy.bool, ETy.int .i64, ETy.bool, ETy.bool]) h0,
  Blk.A 23 (ETy.st [ETy.int .i64, ETy.bool, ETy.str, ETy.int .i64, ETy.str]) h1]) t4 t5 t6 t8 t9 t10 t11 t12 h0 h1 := by kernel_rfl
theorem x9made_k : ∀ k, (∀ (t4 : Int) (t5 : ByteArray) (t6 : Bool) (t7 : Int) (h0 : List AV) (h1 : List AV), evK x9made_E x9made_h 3000 k (todoOf 15 (bodyOf Tryz.f30)) [(1, AV.ptr 0 9 0 0), (3, AV.ptr 1 5 0 0), (4, AV.int .i64 t4), (5, AV.str t5),
  (6, AV.bool t6), (7, AV.int .i64 t7)] [Blk.A 50 (ETy.st [ETy.int .i64, ETy.int .i64, ETy.sl (ETy.int .i64), ETy.sl (ETy.int .i64), ETy.bool, ETy.bool, ETy.int .i64, ETy.bool, ETy.bool]) h0,
  Blk.A 23 (ETy.st [ETy.int .i64, ETy.bool, ETy.str, ETy.int .i64, ETy.str]) h1] = x9made_L15 k t4 t5 t6 t7 h0 h1) ∧ (∀ (t5 : ByteArray) (t6 : Bool) (t8 : ByteArray) (t9 : ByteArray) (h0 : List AV) (h1 : List AV), evK x9made_E x9made_h 3000 k (todoOf 27 (bodyOf Tryz.f30)) [(3, AV.ptr 1 5 0 0), (5, AV.str t5), (6, AV.bool t6), (8, AV.str t8), (9, AV.str t9)] [Blk.A 50 (ETy.st [ETy.int .i64, ETy.int .i64, ETy.sl (ETy.int .i64), ETy.sl (ETy.int .i64), ETy.bool, ETy.bool, ETy.int .i64, ETy.bool, ETy.bool]) h0,
  Blk.A 23 (ETy.st [ETy.int .i64, ETy.bool, ETy.str, ETy.int .i64, ETy.str]) h1] = x9made_L27 k t5 t6 t8 t9 h0 h1) ∧ (∀ (t4 : Int) (t5 : ByteArray) (t6 : Bool) (t8 : ByteArray) (t9 : ByteArray) (h0 : List AV) (h1 : List AV), evK x9made_E x9made_h 3000 k (todoOf 33 (bodyOf Tryz.f30)) [(1, AV.ptr 0 9 0 0), (3, AV.ptr 1 5 0 0), (4, AV.int .i64 t4), (5, AV.str t5),
  (6, AV.bool t6), (8, AV.str t8), (9, AV.str t9)] [Blk.A 50 (ETy.st [ETy.int .i64, ETy.int .i64, ETy.sl (ETy.int .i64), ETy.sl (ETy.int .i64), ETy.bool, ETy.bool, ETy.int .i64, ETy.bool, ETy.bool]) h0,
  Blk.A 23 (ETy.st [ETy.int .i64, ETy.bool, ETy.str, ETy.int .i64, ETy.str]) h1] = x9made_L33 k t4 t5 t6 t8 t9 h0 h1) ∧ (∀ (t4 : Int) (t5 : ByteArray) (t6 : Bool) (t8 : ByteArray) (t9 : ByteArray) (t10 : ByteArray) (h0 : List AV) (h1 : List AV), evK x9made_E x9made_h 3000 k (todoOf 39 (bodyOf Tryz.f30)) [(1, AV.ptr 0 9 0 0), (3, AV.ptr 1 5 0 0), (4, AV.int .i64 t4), (5, AV.str t5),
  (6, AV.bool t6), (8, AV.str t8), (9, AV.str t9), (10, AV.str t10)] [Blk.A 50 (ETy.st [ETy.int .i64, ETy.int .i64, ETy.sl (ETy.int .i64), ETy.sl (ETy.int .i64), ETy.bool, ETy.bool, ETy.int .i64, ETy.bool, ETy.bool]) h0,
  Blk.A 23 (ETy.st [ETy.int .i64, ETy.bool, ETy.str, ETy.int .i64, ETy.str]) h1] = x9made_L39 k t4 t5 t6 t8 t9 t10 h0 h1) ∧ (∀ (t4 : Int) (t5 : ByteArray) (t6 : Bool) (t8 : ByteArray) (t9 : ByteArray) (t10 : ByteArray) (t11 : Int) (t12 : Int) (h0 : List AV) (h1 : List AV), evK x9made_E x9made_h 3000 k (todoOf 47 (bodyOf Tryz.f30)) [(1, AV.ptr 0 9 0 0), (3, AV.ptr 1 5 0 0), (4, AV.int .i64 t4), (5, AV.str t5),
  (6, AV.bool t6), (8, AV.str t8), (9, AV.str t9), (10, AV.str t10), (11, AV.int .i64 t11), (12, AV.int .i64 t12)] [Blk.A 50 (ETy.st [ETy.int .i64, ETy.int .i64, ETy.sl (ETy.int .i64), ETy.sl (ETy.int .i64), ETy.bool, ETy.bool, ETy.int .i64, ETy.bool, ETy.bool]) h0,
  Blk.A 23 (ETy.st [ETy.int .i64, ETy.bool, ETy.str, ETy.int .i64, ETy.str]) h1] = x9made_L47 k t4 t5 t6 t8 t9 t10 t11 t12 h0 h1)
  | 0 => by
    refine ⟨?_, ?_, ?_, ?_, ?_⟩ <;> intros <;> rfl
  | k + 1 => by
    have ih := x9made_k k
    refine ⟨?_, ?_, ?_, ?_, ?_⟩ <;> intros
    · exact ((x9made_s15 _ _ _ _ _ _ _).trans (by simp only [ih] <;> rfl))
    · exact ((x9made_s27 _ _ _ _ _ _ _).trans (by simp only [ih] <;> rfl))
    · exact ((x9made_s33 _ _ _ _ _ _ _ _).trans (by simp only [ih] <;> rfl))
    · exact ((x9made_s39 _ _ _ _ _ _ _ _ _).trans (by simp only [ih] <;> rfl))
    · exact ((x9made_s47 _ _ _ _ _ _ _ _ _ _ _).trans (by simp only [ih] <;> rfl))
theorem x9made_ev (k : Nat) (a : List AV) : evM x9made_E x9made_h 3000 k [.code (bodyOf Tryz.f30)] (T0 0 [.agg (etaL [.int .i64, .int .i64, .sl (.int .i64), .sl (.int .i64), .bool, .bool, .int .i64, .bool, .bool] 0 a)]) [] = x9made_b0 (x9made_L15 k) (x9made_L27 k) (x9made_L33 k) (x9made_L39 k) (x9made_L47 k) a := by
  refine (x9made_s0 _ a).trans ?_
  simp only [x9made_k k] <;> rfl

end
end Go.RX.S
